import Derived.Test.YtokghjnkfabgiaaGreatDoorTD19
import Derived.Lib.MinMax
import Derived.Deep.CutRange
import Derived.Deep.DeepCutAuto
set_option linter.unusedVariables false
set_option linter.unusedSimpArgs false
set_option maxRecDepth 100000
namespace Go.Proofs.YtokghjnkfabgiaaGreatDoor
open Go.RowKit Go.Lib
attribute [local go_sem] str_size str_get str_toList
attribute [local go_sem high] run_str_add

theorem showX_some {items : List Itm} {most : Nat} {t : Str} (h : showX LL items most = some t) : ∃ p, showK LL items [] = some [p] ∧ p.tokens ≤ most ∧ p.nest ≤ 32 ∧ t = joinS [32] p.words ∧ items.length ≤ most := by
 unfold showX at h
 by_cases hm : most < items.length
 ·rw [if_pos hm] at h; cases h
 rw [if_neg hm] at h
 cases hk : showK LL items [] with
 | none => rw [hk] at h; cases h
 | some l =>
  rw [hk] at h
  cases l with
  | nil => cases h
  | cons p r =>
   cases r with
   | cons q r => cases h
   | nil =>
    have h' : (if most < p.tokens ∨ 32 < p.nest then none else some (joinS [32] p.words)) = some t := h
    by_cases hc : most < p.tokens ∨ 32 < p.nest
    ·rw [if_pos hc] at h'; cases h'
    ·rw [if_neg hc] at h'
     exact ⟨p, rfl, by omega, by omega, (Option.some.inj h').symm, by omega⟩
structure ExI (w : World) (R : List Pc) (rest : List Itm) (i : Nat) (W : World) (hv : Value) (ps : List PG) : Prop where
 below : Below w.heap.size w W
 have_ : HvI w.heap.size W hv ps
 len : ps.length ≤ i
 size : szH (ps.map PG.p).reverse ≤ i * 6420
 toks : tkH (ps.map PG.p).reverse ≤ i * 256 ∧ nsH (ps.map PG.p).reverse ≤ i
 run : showK LL rest (ps.map PG.p).reverse = some R
theorem ExI.next {w W W' : World} {R : List Pc} {rest : List Itm} {i : Nat} {hv : Value} {ps : List PG} (h : ExI w R rest i W hv ps) (hb : Below W.heap.size W W') : ExI w R rest i W' hv ps :=
 ⟨h.below.trans (hb.mono h.below.size), h.have_.next hb, h.len, h.size, h.toks, h.run⟩
theorem ExI.words {w W : World} {R : List Pc} {rest : List Itm} {i : Nat} {hv : Value} {ps : List PG} (h : ExI w R rest i W hv ps) : ∀ p ∈ (ps.map PG.p).reverse, p.words ≠ [] := by
 intro p hp
 obtain ⟨x, hx, rfl⟩ := List.mem_map.1 (List.mem_reverse.1 hp)
 exact (h.have_.own.1 x hx).2
theorem ExI.step {w W W' : World} {R : List Pc} {it : Itm} {rest : List Itm} {i : Nat} {hv hv' : Value} {ps ps' : List PG} (h : ExI w R (it :: rest) i W hv ps) (h64 : ∀ n ∈ it.nums, in64B n = true) {h' : List Pc} (hs : showStep LL (ps.map PG.p).reverse it = some h')
  (hb : Below w.heap.size w W') (hh : HvI w.heap.size W' hv' ps') (he : (ps'.map PG.p).reverse = h') : ExI w R rest (i + 1) W' hv' ps' := by
 obtain ⟨h1, -, h3⟩ := step_size hs h.words h64
 obtain ⟨t1, t2⟩ := step_toks hs
 refine ⟨hb, hh, ?_, ?_, ?_, ?_⟩
 ·have := h.len
  rw [← he] at h3
  simp at h3
  omega
 ·have := h.size
  rw [he]
  omega
 ·have := h.toks
  rw [he]
  omega
 ·have := h.run
  rw [showK, hs] at this
  rw [he]
  exact this
theorem ExI.stepped {w W : World} {R : List Pc} {it : Itm} {rest : List Itm} {i : Nat} {hv : Value} {ps : List PG} (h : ExI w R (it :: rest) i W hv ps) : ∃ h', showStep LL (ps.map PG.p).reverse it = some h' := by
 have := h.run
 rw [showK] at this
 cases hs : showStep LL (ps.map PG.p).reverse it with
 | none => rw [hs] at this; cases this
 | some h' => exact ⟨h', rfl⟩
theorem PG.Own.mono {x : PG} {W : World} {M M' : Nat} (h : x.Own W M) (hM : M' ≤ M) : x.Own W M' := ⟨own_mono h.1 hM, h.2⟩
theorem own_new {W1 w2 : World} {x : PG} (h : x.Own w2 W1.heap.size) : W1.heap.size ≤ x.g := by
 obtain ⟨_, _, hg, _⟩ := h.block
 exact hg
theorem val_eq (p : Pc) (g cap : Nat) : (PG.mk p g cap).val = .slice (some ⟨g, 0, none⟩) p.words.length cap := rfl
theorem cells_eq (x : PG) : x.cells.toArray = #[x.val, .int .i64 x.p.nest, .int .i64 x.p.tokens, .bool x.p.plain] := rfl
theorem join_eq (sep : Str) : ∀ ws : List Str, Lib.join ws sep = joinS sep ws
 | [] => rfl
 | [w] => Lib.join_one _ _
 | w :: x :: r => by
  have ih := join_eq sep (x :: r)
  rw [join_cons (by simp), ← ih]
  simp [Lib.join]
theorem join_len (ws : List Str) : (joinS [32] ws).length ≤ szW ws := by
 induction ws with
 | nil => exact Nat.zero_le _
 | cons w r ih =>
  by_cases hr : r = []
  ·subst hr; simp [joinS, szW]
  ·rw [join_cons hr]
   simp [szW] at ih ⊢
   omega
theorem join_c {W : World} {M : Nat} (g cap : Nat) (p : Pc) (h : (PG.mk p g cap).Own W M) (hl : szW p.words ≤ 100000000000) : Calls Tryz.prog 105 #[.slice (some ⟨g, 0, none⟩) p.words.length cap, .string (str [32])] W fun e w' => e = .returned (.string (str (joinS [32] p.words))) ∧ Below W.heap.size W w' := by
 obtain ⟨cur, hh, hM, hnc, hcm, hcs, htk⟩ := h.block
 have hj := Tryz.strings_Join g 0 cap (p.words.map str) (str [32]) W (fun j x hx => by
  rw [List.getElem?_map] at hx
  cases hw : p.words[j]? with
  | none => rw [hw] at hx; cases hx
  | some s =>
   rw [hw] at hx
   cases hx
   rw [Nat.zero_add]
   exact (h.cell hw).1) (block_lt hh) (by have := szW_len p.words; simp; omega) (by simpa using hnc)
 have e1 : (p.words.map str).map (·.data.toList) = p.words := by
  rw [List.map_map]
  conv => rhs; rw [← List.map_id p.words]
  exact List.map_congr_left fun s _ => ls_str s
 rw [e1, show (str [32]).data.toList = [32] from rfl, join_eq, List.length_map] at hj
 exact hj (by have := join_len p.words; omega)
theorem top_one {ps : List PG} {p : Pc} {q : List Pc} (h : (ps.map PG.p).reverse = p :: q) : ∃ qs y, ps = qs ++ [y] ∧ p = y.p ∧ q = (qs.map PG.p).reverse := by
 rcases snoc_cases ps with rfl | ⟨qs, y, rfl⟩
 ·cases h
 ·simp at h
  exact ⟨qs, y, rfl, h.1.symm, by simp [h.2]⟩
theorem top_two {ps : List PG} {p l : Pc} {q : List Pc} (h : (ps.map PG.p).reverse = p :: l :: q) : ∃ qs x y, ps = qs ++ [x, y] ∧ p = y.p ∧ l = x.p ∧ q = (qs.map PG.p).reverse := by
 obtain ⟨qs, y, rfl, hp, hq⟩ := top_one h
 obtain ⟨qs2, x, rfl, hl, hq2⟩ := top_one hq.symm
 exact ⟨qs2, x, y, by simp, hp, hl, hq2⟩
def leftP (l : Pc) : Pc := ⟨if l.plain then l.words else brackW l.words, if l.plain then l.nest else l.nest + 1, if l.plain then l.tokens else l.tokens + 2, l.plain⟩
theorem leftP_sz {l : Pc} (h : l.words ≠ []) : szW (leftP l).words ≤ szW l.words + 2 ∧ (leftP l).tokens ≤ l.tokens + 2 ∧ (leftP l).nest ≤ l.nest + 1 := by
 unfold leftP
 dsimp only
 refine ⟨?_, ?_, ?_⟩
 ·split
  ·omega
  ·rw [szW_brack h]; omega
 ·split <;> omega
 ·split <;> omega
def VsI (w wr : World) (y16 : Nat) (P : Pc) (W : World) (z : PG) : Prop := z.p = P ∧ Below wr.heap.size wr W ∧ z.Own W w.heap.size ∧ wr.heap.size ≤ z.g ∧ W.heap[y16]? = some (.cells #[.slice (some ⟨z.g, 0, none⟩) z.p.words.length z.cap, .int .i64 z.p.nest, .int .i64 z.p.tokens, .bool z.p.plain] 172 (0, 0))
theorem vs_made {w wr W1 wz : World} {y16 G : Nat} {wd : Str} {py : Pc} {vn : Nat} {v' : Value} {v0 : Value} (hb : Below wr.heap.size wr W1) (hw : w.heap.size ≤ wr.heap.size) (hG : wr.heap.size ≤ G) (hy : wr.heap.size ≤ y16) (hrz : wz.ownsRow w.heap.size 9 1 v' (1 + py.words.length) ([.string (str wd)] ++ wcells py.words)) (hgz : W1.grownBy wz (some G)) (hnz : Newer W1 (.slice (some ⟨G, 0, none⟩) 1 1) v')
  (hbox : wz.heap[y16]? = some (.cells #[v0, .int .i64 py.nest, .int .i64 ((py.tokens : Int) + (vn : Int)), .bool false] 172 (0, 0))) :
  ∃ z, VsI w wr y16 ⟨wd :: py.words, py.nest, py.tokens + vn, false⟩ (wz.setCell ⟨y16, 0, none⟩ v') z := by
 have e : [.string (str wd)] ++ wcells py.words = wcells (wd :: py.words) := rfl
 have hl : 1 + py.words.length = (wd :: py.words).length := by simp; omega
 rw [e, hl] at hrz
 obtain ⟨g, cap, rfl, hg⟩ := words_val hrz (by simp)
 have hge : wr.heap.size ≤ g := by
  rcases hnz with h | ⟨k, h, hk⟩
  ·have h' : g = G := Option.some.inj h
   omega
  ·have h' : g = k := Option.some.inj h
   have := hb.size
   omega
 have hk : KeepTy 9 wz (wz.setCell ⟨y16, 0, none⟩ (.slice (some ⟨g, 0, none⟩) (wd :: py.words).length cap)) := KeepTy.setCell (p := ⟨y16, 0, none⟩) (NotTy.of hbox (by decide)) _
 refine ⟨⟨⟨wd :: py.words, py.nest, py.tokens + vn, false⟩, g, cap⟩, rfl, ?_, ⟨own_keep hrz hk, by simp⟩, hge, ?_⟩
 ·exact ((hb.grown hgz (by have := hb.size; omega) (fun k hk => by cases hk; exact hG))).setCell (p := ⟨y16, 0, none⟩) hy _
 ·have := set_block (k := 0) (v := .slice (some ⟨g, 0, none⟩) (wd :: py.words).length cap) hbox
  exact this
set_option maxHeartbeats 16000000 in
theorem showexpr_any (w : World) (ht : TabT w) (b B1 n1 B2 n2 : Nat) (hb : b < w.heap.size)
  (hc0 : w.cell? ⟨b, 0, none⟩ = some (.map (some B1))) (h1 : MapS 119 .u8 B1 n1 woneW w) (hc1 : w.cell? ⟨b, 1, none⟩ = some (.map (some B2))) (h2 : MapS 119 .u8 B2 n2 wtwoW w)
  (items : List Itm) (v : Value) (hv : RowG itmR 0 121 w v items) (most : Nat) (hmost : most ≤ 256) (t : Str) (hs : showX LL items most = some t) (h64 : ∀ i ∈ items, ∀ n ∈ i.nums, in64B n = true) :
  Calls Tryz.prog 71 #[.pointer (some ⟨b, 0, none⟩), v, .int .i64 (most : Int)] w fun e w' => e = .returned (.tuple #[.string (str t), .bool true]) ∧ Below w.heap.size w w' ∧ t.length ≤ 2000000 := by
 obtain ⟨pf, hk, htk, hnest, rfl, hlen⟩ := showX_some hs
 clear hs
 obtain ⟨va, vc, rfl⟩ := hv.form
 have hx0 : ExI w [pf] items 0 w (.slice none 0 0) [] := ⟨Below.refl _ _, ⟨RowG.nil _ _ _ _, OwnL.nil⟩, Nat.le_refl _, Nat.le_refl _, ⟨Nat.le_refl _, Nat.le_refl _⟩, hk⟩
 have hverb : ∀ (i : Itm) (a : Int) (nm nu : Value), (i.how = 3 ∨ i.how = 5 ∨ i.how = 6 ∨ i.how = 4 ∨ i.how = 7) → (vstrS LL i).1 ≠ [] → ∀ W, Below w.heap.size w W → Calls Tryz.prog 104 #[.pointer (some ⟨b, 0, none⟩), itV i a nm nu] W fun e w' => e = .returned (.tuple #[.string (str (vstrS LL i).1), .int .i64 ((vstrS LL i).2 : Nat)]) ∧ Below W.heap.size W w' := fun i a nm nu hi hn W hW =>
  showverb_any W b B1 n1 B2 n2 i a nm nu (by have := hW.size; omega) (keepCell hW hc0) (h1.below hW) (keepCell hW hc1) (h2.below hW) hi hn
 have HVB := Lib.hid hverb; have HT := Lib.hid ht; have HV := Lib.hid hv; have H64 := Lib.hid h64; have HX0 := Lib.hid hx0
 clear hverb ht hc0 hc1 h1 h2 hb hk hv h64 hx0
 have qm : decide ((most : Int) < (items.length : Int)) = false := decide_eq_false (by omega)
 have qm2 : decide (most < items.length) = false := decide_eq_false (by omega)
 go_enter Tryz.func71, Tryz.ntmps71
 go_upto_region 5 with fail
 go_loopw [8, 24] (fun hv v wr => ∃ (i : Nat) (ps : List PG), v = .int .i64 (i : Int) ∧ i ≤ items.length ∧ ExI w [pf] (items.drop i) i wr hv ps) (fun hv v wr => items.length - (Lib.intOf v).toNat)
 case atStart => exact ⟨0, [], rfl, Nat.zero_le _, HX0.out⟩
 case round =>
  clear HX0 qm qm2
  obtain ⟨i, ps, rfl, hi, hx⟩ := hrel
  obtain ⟨ha, hc, rfl⟩ := hx.have_.row.form
  by_cases hil : i < items.length
  ·have q : decide ((i : Int) < (items.length : Int)) = true := decide_eq_true (by omega)
   rw [List.drop_eq_getElem_cons hil] at hx
   obtain ⟨h', hst⟩ := hx.stepped
   obtain ⟨ib, io, ic, a, u, e1, z0, z1, z2, z3, z4, zr⟩ := itm_at HV.out i hil
   cases e1
   have h64 := H64.out _ (List.getElem_mem hil)
   have z0 := keepCell hx.below z0
   have z1 := keepCell hx.below z1
   have z2 := keepCell hx.below z2
   have z3 := keepCell hx.below z3
   have z4 := keepCell hx.below z4
   generalize items[i] = it at hx hst z0 z2 z3 z4 zr h64
   obtain ⟨how, fn, nm, nums⟩ := it
   have hlen2 := hx.len
   have hic : items.length ≤ 256 := by omega
   have hcase := step_cases hst
   have hstep := fun (W' : World) (hv' : Value) (ps' : List PG) => hx.step (W' := W') (hv' := hv') (ps' := ps') h64 hst
   have HST := Lib.hid hstep; have HX := Lib.hid hx
   clear hstep hx hst
   dsimp only at hcase z0 z2 z3 z4 zr h64
   obtain ⟨ua, uc, rfl, hnl, -⟩ := zr.slice
   cases hcase with
   | name e hf hn hvn r =>
    dsimp only at e hf hn hvn r
    subst e hf hn
    have hop := fun (W : World) (hW : Below w.heap.size w W) => operand_name W (HT.out.below hW) nm a _ (zr.below hW) hvn
    have HOP := Lib.hid hop; have HR := Lib.hid r
    clear hop r hvn zr HT HV HVB H64 h64
    have hW1 : Below w.heap.size w (wr.alloc (.cells #[.int .i64 2, .int .i64 a, .int .u8 0, .string (str nm), .slice ua 0 uc] 121)) := HX.out.below.alloc HX.out.below.size _
    have hbl : Below wr.heap.size wr (wr.alloc (.cells #[.int .i64 2, .int .i64 a, .int .u8 0, .string (str nm), .slice ua 0 uc] 121)) := (Below.refl _ _).alloc (Nat.le_refl _) _
    have HW1 := Lib.hid hW1; have HBL := Lib.hid hbl
    clear hW1 hbl
    go_upto_region 8 with fail
    go_upto_region 9 with (go_at_call 103; (refine (HOP.out _ HW1.out).mono ?_); rintro e w2 ⟨x, hxp, rfl, hown, hb2⟩; (obtain ⟨px, g, cap⟩ := x); (dsimp only at hxp); (have HXP := Lib.hid hxp); (have HOW := Lib.hid hown); (have HB2 := Lib.hid hb2); (clear hxp hown hb2); rw [cells_eq, val_eq]; dsimp only)
    have hb2 : Below wr.heap.size wr w2 := HBL.out.trans (HB2.out.mono HBL.out.size)
    have hb3 : Below w2.heap.size w2 ((w2.alloc (.cells #[.slice (some ⟨g, 0, none⟩) px.words.length cap, .int .i64 px.nest, .int .i64 px.tokens, .bool px.plain] 172)).alloc (.cells #[.slice (some ⟨g, 0, none⟩) px.words.length cap, .int .i64 px.nest, .int .i64 px.tokens, .bool px.plain] 172)) := ((Below.refl _ _).alloc (Nat.le_refl _) _).alloc (by simp) _
    have hb4 := hb2.trans (hb3.mono hb2.size)
    have hG := World.alloc_heap_new (w2.alloc (.cells #[.slice (some ⟨g, 0, none⟩) px.words.length cap, .int .i64 px.nest, .int .i64 px.tokens, .bool px.plain] 172)) (.cells #[.slice (some ⟨g, 0, none⟩) px.words.length cap, .int .i64 px.nest, .int .i64 px.tokens, .bool px.plain] 172)
    have hsz : (w2.alloc (.cells #[.slice (some ⟨g, 0, none⟩) px.words.length cap, .int .i64 px.nest, .int .i64 px.tokens, .bool px.plain] 172)).heap.size = w2.heap.size + 1 := by simp
    rw [hsz] at hG
    have hr4 := HX.out.have_.row.next hb4
    have ho4 := HX.out.have_.own.next hb4
    have hbw := HX.out.below.trans (hb4.mono HX.out.below.size)
    have how : (PG.mk px g cap).Own ((w2.alloc (.cells #[.slice (some ⟨g, 0, none⟩) px.words.length cap, .int .i64 px.nest, .int .i64 px.tokens, .bool px.plain] 172)).alloc (.cells #[.slice (some ⟨g, 0, none⟩) px.words.length cap, .int .i64 px.nest, .int .i64 px.tokens, .bool px.plain] 172)) w.heap.size := (HOW.out.keep (KeepTy.below hb3)).mono HW1.out.size
    have hgn : ∀ y ∈ ps, y.g ≠ g := fun y hy => by
     have h1 := HX.out.have_.own.lt y hy
     have h2 := own_new HOW.out
     have h3 := HBL.out.size
     dsimp only at h2
     omega
    have hlp := HX.out.len
    have HR4 := Lib.hid hr4; have HO4 := Lib.hid ho4; have HBW := Lib.hid hbw; have HWN := Lib.hid how; have HGN := Lib.hid hgn; have HG := Lib.hid hG
    clear hb2 hb3 hb4 hG hsz hr4 ho4 hbw how hgn
    go_upto_region 35 with (at_builtin; (refine wpList_pushG rfl _ _ 170 172 rfl (.agg #[.slice none 0 0, .int .i64 0, .int .i64 0, .bool false]) 48 Tryz.underlying170 (by kernel_rfl) (by rfl) (show 0 < 4 by decide) w.heap.size w.heap.size (w2.heap.size + 1) (keep_pg _ _) _ ps (PG.mk px g cap) _ rfl HR4.out rfl HG.out ⟨rfl, trivial⟩ (by unfold maxLen; omega) (by omega) (Nat.le_refl _) HBW.out.size ?_); intro v' wz hrz hbz hgz hkz; (have HZ := Lib.hid (And.intro hrz (And.intro hbz (hkz 9 (by decide))))); clear hrz hbz hgz hkz)
    go_wp2_with fail
    go_roundw
    case rel =>
     obtain ⟨hrz, hbz, hkz⟩ := HZ.out
     refine ⟨i + 1, ps ++ [PG.mk px g cap], by go_num, by omega, HST.out wz _ _ (HBW.out.trans hbz) ⟨hrz, (HO4.out.keep hkz).push (HWN.out.keep hkz) HGN.out⟩ ?_⟩
     rw [HR.out, ← HXP.out]
     simp
    case measure => simp [Lib.intOf]; omega
    all_goals skip
   | num e hf hn h0 hl r =>
    dsimp only at e hf hn h0 hl r
    subst e hf hn
    have hop := fun (W : World) (hW : Below w.heap.size w W) => operand_num W (HT.out.below hW) nums a _ (zr.below hW) h0 hl h64
    have HOP := Lib.hid hop; have HR := Lib.hid r
    clear hop r zr HT HV HVB H64 h64
    have hW1 : Below w.heap.size w (wr.alloc (.cells #[.int .i64 1, .int .i64 a, .int .u8 0, .string (str []), .slice ua nums.length uc] 121)) := HX.out.below.alloc HX.out.below.size _
    have hbl : Below wr.heap.size wr (wr.alloc (.cells #[.int .i64 1, .int .i64 a, .int .u8 0, .string (str []), .slice ua nums.length uc] 121)) := (Below.refl _ _).alloc (Nat.le_refl _) _
    have HW1 := Lib.hid hW1; have HBL := Lib.hid hbl
    clear hW1 hbl
    go_upto_region 8 with fail
    go_upto_region 9 with (go_at_call 103; (refine (HOP.out _ HW1.out).mono ?_); rintro e w2 ⟨x, hxp, rfl, hown, hb2⟩; (obtain ⟨px, g, cap⟩ := x); (dsimp only at hxp); (have HXP := Lib.hid hxp); (have HOW := Lib.hid hown); (have HB2 := Lib.hid hb2); (clear hxp hown hb2); rw [cells_eq, val_eq]; dsimp only)
    have hb2 : Below wr.heap.size wr w2 := HBL.out.trans (HB2.out.mono HBL.out.size)
    have hb3 : Below w2.heap.size w2 ((w2.alloc (.cells #[.slice (some ⟨g, 0, none⟩) px.words.length cap, .int .i64 px.nest, .int .i64 px.tokens, .bool px.plain] 172)).alloc (.cells #[.slice (some ⟨g, 0, none⟩) px.words.length cap, .int .i64 px.nest, .int .i64 px.tokens, .bool px.plain] 172)) := ((Below.refl _ _).alloc (Nat.le_refl _) _).alloc (by simp) _
    have hb4 := hb2.trans (hb3.mono hb2.size)
    have hG := World.alloc_heap_new (w2.alloc (.cells #[.slice (some ⟨g, 0, none⟩) px.words.length cap, .int .i64 px.nest, .int .i64 px.tokens, .bool px.plain] 172)) (.cells #[.slice (some ⟨g, 0, none⟩) px.words.length cap, .int .i64 px.nest, .int .i64 px.tokens, .bool px.plain] 172)
    have hsz : (w2.alloc (.cells #[.slice (some ⟨g, 0, none⟩) px.words.length cap, .int .i64 px.nest, .int .i64 px.tokens, .bool px.plain] 172)).heap.size = w2.heap.size + 1 := by simp
    rw [hsz] at hG
    have hr4 := HX.out.have_.row.next hb4
    have ho4 := HX.out.have_.own.next hb4
    have hbw := HX.out.below.trans (hb4.mono HX.out.below.size)
    have how : (PG.mk px g cap).Own ((w2.alloc (.cells #[.slice (some ⟨g, 0, none⟩) px.words.length cap, .int .i64 px.nest, .int .i64 px.tokens, .bool px.plain] 172)).alloc (.cells #[.slice (some ⟨g, 0, none⟩) px.words.length cap, .int .i64 px.nest, .int .i64 px.tokens, .bool px.plain] 172)) w.heap.size := (HOW.out.keep (KeepTy.below hb3)).mono HW1.out.size
    have hgn : ∀ y ∈ ps, y.g ≠ g := fun y hy => by
     have h1 := HX.out.have_.own.lt y hy
     have h2 := own_new HOW.out
     have h3 := HBL.out.size
     dsimp only at h2
     omega
    have hlp := HX.out.len
    have HR4 := Lib.hid hr4; have HO4 := Lib.hid ho4; have HBW := Lib.hid hbw; have HWN := Lib.hid how; have HGN := Lib.hid hgn; have HG := Lib.hid hG
    clear hb2 hb3 hb4 hG hsz hr4 ho4 hbw how hgn
    go_upto_region 35 with (at_builtin; (refine wpList_pushG rfl _ _ 170 172 rfl (.agg #[.slice none 0 0, .int .i64 0, .int .i64 0, .bool false]) 48 Tryz.underlying170 (by kernel_rfl) (by rfl) (show 0 < 4 by decide) w.heap.size w.heap.size (w2.heap.size + 1) (keep_pg _ _) _ ps (PG.mk px g cap) _ rfl HR4.out rfl HG.out ⟨rfl, trivial⟩ (by unfold maxLen; omega) (by omega) (Nat.le_refl _) HBW.out.size ?_); intro v' wz hrz hbz hgz hkz; (have HZ := Lib.hid (And.intro hrz (And.intro hbz (hkz 9 (by decide))))); clear hrz hbz hgz hkz)
    go_wp2_with fail
    go_roundw
    case rel =>
     obtain ⟨hrz, hbz, hkz⟩ := HZ.out
     refine ⟨i + 1, ps ++ [PG.mk px g cap], by go_num, by omega, HST.out wz _ _ (HBW.out.trans hbz) ⟨hrz, (HO4.out.keep hkz).push (HWN.out.keep hkz) HGN.out⟩ ?_⟩
     rw [HR.out, ← HXP.out]
     simp
    case measure => simp [Lib.intOf]; omega
    all_goals skip
   | mon p q e hn hm hv hh r =>
    dsimp only at e hn hm
    subst hn hm
    obtain ⟨qs, y, rfl, rfl, rfl⟩ := top_one hh
    obtain ⟨py, gy, cy⟩ := y
    dsimp only at r
    have hvb := HVB.out ⟨how, fn, [], []⟩ a (.string (str [])) (.slice ua 0 uc) (by dsimp only; omega) hv
    obtain ⟨hwl, hvn, -⟩ := vstr_len ⟨how, fn, [], []⟩
    generalize vstrS LL ⟨how, fn, [], []⟩ = vv at hvb hv r hwl hvn
    obtain ⟨wd, vn⟩ := vv
    dsimp only [itV] at hvb hv r hwl hvn
    have HVN := Lib.hid hvn
    clear hvn
    have t1 : (how == 1) = false := by rw [beq_eq_false_iff_ne]; omega
    have t2 : (how == 2) = false := by rw [beq_eq_false_iff_ne]; omega
    have t4 : (how == 4) = false := by rw [beq_eq_false_iff_ne]; omega
    have t7 : (how == 7) = false := by rw [beq_eq_false_iff_ne]; omega
    have t3 : decide (how < 3) = false := decide_eq_false (by omega)
    have t8 : decide (7 < how) = false := decide_eq_false (by omega)
    have et : wd.isEmpty = false := by
     cases wd with
     | nil => exact absurd rfl hv
     | cons x r => rfl
    have HVB2 := Lib.hid hvb; have HR := Lib.hid r; have HHV := Lib.hid hv
    clear e hvb r hv hh zr HT HV HVB H64 h64
    obtain ⟨m, hm⟩ : ∃ m, qs.length = m := ⟨_, rfl⟩
    have hml : (qs ++ [PG.mk py gy cy]).length = m + 1 := by simp [hm]
    have HML := Lib.hid hml
    rw [hml] at HX hlen2 ⊢
    clear hml
    have hW1 : Below w.heap.size w (wr.alloc (.cells #[.int .i64 how, .int .i64 a, .int .u8 fn, .string (str []), .slice ua 0 uc] 121)) := HX.out.below.alloc HX.out.below.size _
    have hbl : Below wr.heap.size wr (wr.alloc (.cells #[.int .i64 how, .int .i64 a, .int .u8 fn, .string (str []), .slice ua 0 uc] 121)) := (Below.refl _ _).alloc (Nat.le_refl _) _
    have HW1 := Lib.hid hW1; have HBL := Lib.hid hbl
    clear hW1 hbl
    have qlt : decide (((m + 1 : Nat) : Int) < 1) = false := decide_eq_false (by omega)
    go_upto_region 17 with fail
    go_upto_region 18 with (go_at_call 104; (refine (HVB2.out _ HW1.out).mono ?_); rintro e w2 ⟨rfl, hb2⟩; (have HB2 := Lib.hid hb2); clear hb2)
    go_upto_region 20 with fail
    have hb2 : Below wr.heap.size wr w2 := HBL.out.trans (HB2.out.mono HBL.out.size)
    have hxq := HX.out.next hb2
    obtain ⟨b1, o1, c1, e1, k0, k1, k2, k3⟩ := pg_at (x := ⟨py, gy, cy⟩) hxq.have_.row m (by rw [List.getElem?_append_right (by omega), hm, Nat.sub_self]; rfl)
    simp only [Value.slice.injEq] at e1
    obtain ⟨rfl, -, rfl⟩ := e1
    rw [val_eq] at k0
    dsimp only at k1 k2 k3
    have htok : py.tokens ≤ 70000 ∧ py.nest ≤ 300 := by
     have := HX.out.toks
     have h1 : py.tokens ≤ tkH (List.map PG.p (qs ++ [PG.mk py gy cy])).reverse := by simp [tkH]
     have h2 : py.nest ≤ nsH (List.map PG.p (qs ++ [PG.mk py gy cy])).reverse := by simp [nsH]
     omega
    have hwo : py.words.length ≤ 2000000 := by
     have := HX.out.size
     have h1 : szW py.words ≤ szH (List.map PG.p (qs ++ [PG.mk py gy cy])).reverse := by simp [szH]
     have h2 := szW_len py.words
     omega
    have hvn : vn ≤ 2 := HVN.out
    have HXQ := Lib.hid hxq
    have HB3 := Lib.hid hb2
    clear hxq hb2 HBL HB2 HW1
    go_upto_region 23 with fail
    have hmm : Below w2.heap.size w2 (w2.alloc (.cells #[.slice (some ⟨gy, 0, none⟩) py.words.length cy, .int .i64 py.nest, .int .i64 ((py.tokens : Int) + (vn : Int)), .bool false] 172)) := (Below.refl _ _).alloc (Nat.le_refl _) _
    refine gen_worldA (fun W => (Below wr.heap.size wr W ∧ HvI w.heap.size W (.slice (some ⟨b1, o1, none⟩) (qs ++ ([PG.mk py gy cy])).length hc) (qs ++ ([PG.mk py gy cy]))) ∧ W.heap[w2.heap.size]? = some (.cells #[.slice (some ⟨gy, 0, none⟩) py.words.length cy, .int .i64 py.nest, .int .i64 ((py.tokens : Int) + (vn : Int)), .bool false] 172 (0, 0))) ⟨⟨HB3.out.trans (hmm.mono HB3.out.size), HML.out.symm ▸ HXQ.out.have_.next hmm⟩, World.alloc_heap_new _ _⟩ ?_
    clear hmm k0 k1 k2 k3
    have hyw : wr.heap.size ≤ w2.heap.size := HB3.out.size
    have hww : w.heap.size ≤ wr.heap.size := HX.out.below.size
    clear HXQ HB3
    generalize w2.heap.size = y16 at hyw ⊢
    rintro W ⟨⟨hbw, hhv⟩, hbox⟩
    have kb0 := cell_of_row _ y16 0 _ _ _ hbox
    have hd : Below W.heap.size W (W.alloc (.cells #[.string (str wd)] 9)) := (Below.refl _ _).alloc (Nat.le_refl _) _
    have kb1 := cell_of_row _ y16 0 _ _ _ (block_below hbox hd)
    have HOL := Lib.hid (own_lit (M := w.heap.size) (by have := hbw.size; omega) (World.alloc_heap_new W (.cells #[.string (str wd)] 9)))
    have HSR := Lib.hid ((hhv.own.1 (PG.mk py gy cy) (by simp)).keep (KeepTy.below hd)).src
    have HMM := Lib.hid (show w.heap.size ≤ (W.alloc (.cells #[.string (str wd)] 9)).heap.size by have := hbw.size; simp; omega)
    have HBW := Lib.hid (hbw.trans (hd.mono hbw.size)); have HB16 := Lib.hid (block_below hbox hd)
    have hGw := hbw.size
    have HB17 := Lib.hid (KeepTy.below (t := 172) hd)
    obtain ⟨i0, hi0, hz0, hz1, hz2⟩ := info_parts (P := Tryz.prog) (e := 9) (z := .string ⟨#[]⟩) (size := 1) (bytes := 16) (by kernel_rfl)
    have HI0 := Lib.hid hi0; have HZ0 := Lib.hid hz0; have HZ1 := Lib.hid hz1; have HZ2 := Lib.hid hz2
    clear hbw hhv hd hi0 hz0 hz1 hz2 hbox
    go_upto_region 24 with (at_builtin; (refine wpList_append_src _ rfl _ _ 85 rfl w.heap.size 9 i0 (.string ⟨#[]⟩) 1 16 Tryz.underlying85 HI0.out HZ0.out HZ1.out HZ2.out rfl (show 0 < 1 by decide) _ 1 [.string (str wd)] rfl HOL.out _ py.words.length (wcells py.words) rfl HSR.out (by rw [wcells_len, Nat.mul_one]) (wcells_one _) (by unfold maxLen; omega) (by omega) HMM.out ?_); intro v' wz hrz hgz hnz; (have hb16 : wz.heap[y16]? = _ := KeepTy.grown (t := 172) hgz (fun g e => by cases e; exact NotTy.of (World.alloc_heap_new W (.cells #[.string (str wd)] 9)) (by decide)) _ _ HB16.out); (have kz0 := cell_of_row _ y16 0 _ _ _ hb16); (have fz0 := frozen_of_row _ y16 0 _ _ hb16); (have HVS := Lib.hid (vs_made HBW.out hww hGw hyw hrz hgz hnz hb16)); (obtain ⟨vg, vc2, rfl⟩ := Go.Joins.ownsRow_form hrz (by omega)); clear hrz hgz hnz hb16)
    refine gen_worldA (fun W => ∃ z, VsI w wr y16 ⟨wd :: py.words, py.nest, py.tokens + vn, false⟩ W z) HVS.out ?_
    all_goals skip
    rintro W ⟨⟨pz, gz, cz⟩, hzp, hzb, hzo, hzg, hzx⟩
    dsimp only at hzp hzo hzg hzx
    have hti : TI w (.slice (some ⟨b1, o1, none⟩) (m + 1) hc) qs ([PG.mk py gy cy]) y16 ⟨pz, gz, cz⟩ W := ⟨HX.out.below.trans (hzb.mono hww), HX.out.have_.row.next hzb, (HX.out.have_.own.next hzb).front, hzo, fun q hq => by
     have := HX.out.have_.own.lt q (List.mem_append_left _ hq)
     dsimp only
     omega, hzx⟩
    have HTI := Lib.hid hti; have HZP := Lib.hid hzp
    clear hti hzp hzb hzo hzg hzx
    go_upto_region 34 with fail
    have hyb : ∀ n, (Value.slice (some ⟨b1, o1, none⟩) n hc).ownBlock ≠ some y16 := fun n e => by
     have h1 := rowg_lt HX.out.have_.row (g := y16) e
     omega
    have hcap : m + 1 ≤ hc := by
     obtain ⟨_, _, e, h1, _⟩ := HTI.out.row.sl
     simp only [Value.slice.injEq] at e
     obtain ⟨-, e2, rfl⟩ := e
     omega
    have hm63 : m ≤ 9223372036854775807 := by omega
    have hmi : (m : Int) ≤ 9223372036854775807 := by omega
    have hmc : m ≤ hc := by omega
    have hw64 := Lib.hid (IntWalk.i64_in (m : Int) (by omega))
    have HYB := Lib.hid hyb
    clear hyb
    refine wp_region_Z (S := fun W' => (W'.cell? ⟨y16, 0, none⟩ = some (.slice (some ⟨gz, 0, none⟩) pz.words.length cz) ∧ W'.cell? ⟨y16, 1, none⟩ = some (.int .i64 pz.nest)) ∧ (W'.cell? ⟨y16, 2, none⟩ = some (.int .i64 pz.tokens) ∧ W'.cell? ⟨y16, 3, none⟩ = some (.bool pz.plain))) (z := 9) (by kernel_rfl) ?_
    have HTI2 := Lib.hid (HTI.out.next (Below.drew (Below.refl _ _)))
    clear HTI
    generalize W.drew = W2 at HTI2 ⊢
    have hS : ∀ W' : World, W'.heap[y16]? = some (.cells #[.slice (some ⟨gz, 0, none⟩) pz.words.length cz, .int .i64 pz.nest, .int .i64 pz.tokens, .bool pz.plain] 172 (0, 0)) → (fun W' : World => (W'.cell? ⟨y16, 0, none⟩ = some (.slice (some ⟨gz, 0, none⟩) pz.words.length cz) ∧ W'.cell? ⟨y16, 1, none⟩ = some (.int .i64 pz.nest)) ∧ (W'.cell? ⟨y16, 2, none⟩ = some (.int .i64 pz.tokens) ∧ W'.cell? ⟨y16, 3, none⟩ = some (.bool pz.plain))) W' := fun W' h => ⟨⟨cell_of_row _ y16 0 _ _ _ h, cell_of_row _ y16 1 _ _ _ h⟩, cell_of_row _ y16 2 _ _ _ h, cell_of_row _ y16 3 _ _ _ h⟩
    have hS0 := hS _ HTI2.out.box
    refine wpAnyZ_take (i := 0) (v := ?_) rfl (by kernel_rfl) (by kernel_rfl) (by kernel_rfl) (fun _ _ _ h => h) (by kernel_rfl) (Or.inl ⟨by rfl, ?_⟩) (by assumption) ?_
    rotate_left
    ·intro w' hSw
     try dsimp only at hSw
     try obtain ⟨hSw, hSw2⟩ := hSw
     go_simp
     try with_reducible rfl
    show wpAnyZ _ _ _ _ _ _ _ _ (Act.put _ (some 161) _) _
    simp only [Act.put, List.setIfInBounds_toArray, List.set_cons_zero, List.set_cons_succ]
    refine wpAnyZ_take (i := 1) (v := ?_) rfl (by kernel_rfl) (by kernel_rfl) (by kernel_rfl) (fun _ _ _ h => h) (by kernel_rfl) (Or.inl ⟨by rfl, ?_⟩) (by assumption) ?_
    rotate_left
    ·intro w' hSw
     try dsimp only at hSw
     try obtain ⟨hSw, hSw2⟩ := hSw
     go_simp
     try with_reducible rfl
    show wpAnyZ _ _ _ _ _ _ _ _ (Act.put _ (some 162) _) _
    simp only [Act.put, List.setIfInBounds_toArray, List.set_cons_zero, List.set_cons_succ]
    refine wpAnyZ_take (i := 2) (v := ?_) rfl (by kernel_rfl) (by kernel_rfl) (by kernel_rfl) (fun _ _ _ h => h) (by kernel_rfl) (Or.inl ⟨by rfl, ?_⟩) (by assumption) ?_
    rotate_left
    ·intro w' hSw
     try dsimp only at hSw
     try obtain ⟨hSw, hSw2⟩ := hSw
     go_simp
     try with_reducible rfl
    show wpAnyZ _ _ _ _ _ _ _ _ (Act.put _ (some 163) _) _
    simp only [Act.put, List.setIfInBounds_toArray, List.set_cons_zero, List.set_cons_succ]
    refine wpAnyZ_take (i := 3) (v := ?_) rfl (by kernel_rfl) (by kernel_rfl) (by kernel_rfl) (fun _ _ _ h => h) (by kernel_rfl) (Or.inl ⟨by rfl, ?_⟩) (by assumption) ?_
    rotate_left
    ·intro w' hSw
     try dsimp only at hSw
     try obtain ⟨hSw, hSw2⟩ := hSw
     go_simp
     try with_reducible rfl
    show wpAnyZ _ _ _ _ _ _ _ _ (Act.put _ (some 164) _) _
    simp only [Act.put, List.setIfInBounds_toArray, List.set_cons_zero, List.set_cons_succ]
    refine wpAnyZ_take (i := 4) (v := ?_) rfl (by kernel_rfl) (by kernel_rfl) (by kernel_rfl) (fun _ _ _ h => h) (by kernel_rfl) (Or.inl ⟨by rfl, ?_⟩) (by assumption) ?_
    rotate_left
    ·intro w' hSw
     try dsimp only at hSw
     try obtain ⟨hSw, hSw2⟩ := hSw
     go_simp
     try with_reducible rfl
    show wpAnyZ _ _ _ _ _ _ _ _ (Act.put _ (some 165) _) _
    simp only [Act.put, List.setIfInBounds_toArray, List.set_cons_zero, List.set_cons_succ]
    rw [hw64.out]
    refine wpAnyZ_take (i := 5) (v := .slice (some ⟨b1, o1, none⟩) m hc) rfl (by kernel_rfl) (by kernel_rfl) (by kernel_rfl) (fun _ _ _ h => h) (by kernel_rfl) (Or.inl ⟨by rfl, ?_⟩) (by assumption) ?_
    ·intro w' hSw
     clear hSw
     go_simp
     first
      | done
      | (rw [if_pos ⟨by omega, by omega⟩]; first | rfl | simp)
    show wpAnyZ _ _ _ _ _ _ _ _ (Act.put _ (some 166) _) _
    simp only [Act.put, List.setIfInBounds_toArray, List.set_cons_zero, List.set_cons_succ]
    refine wpAnyZ_take (i := 6) (v := ?_) rfl (by kernel_rfl) (by kernel_rfl) (by kernel_rfl) (fun _ _ _ h => h) (by kernel_rfl) (Or.inl ⟨by rfl, ?_⟩) (by assumption) ?_
    rotate_left
    ·intro w' hSw
     try dsimp only at hSw
     try obtain ⟨hSw, hSw2⟩ := hSw
     go_simp
     try with_reducible rfl
    show wpAnyZ _ _ _ _ _ _ _ _ (Act.put _ (some 167) _) _
    simp only [Act.put, List.setIfInBounds_toArray, List.set_cons_zero, List.set_cons_succ]
    clear hS0
    refine wpAnyZ_oneG (i := 7) (by kernel_rfl) rfl (by rfl) (fun K hK => ?_)
    go_simp
    have hti3 := HTI2.out.next ((Below.refl _ _).alloc (Nat.le_refl _) (.cells #[.slice (some ⟨gz, 0, none⟩) pz.words.length cz, .int .i64 pz.nest, .int .i64 pz.tokens, .bool pz.plain] 172))
    have hG := World.alloc_heap_new W2 (.cells #[.slice (some ⟨gz, 0, none⟩) pz.words.length cz, .int .i64 pz.nest, .int .i64 pz.tokens, .bool pz.plain] 172)
    obtain ⟨g3, hg3⟩ : ∃ g, W2.heap.size = g := ⟨_, rfl⟩
    rw [hg3] at hG ⊢
    refine hK.out _ _ (.inr (hS _ hti3.box)) ?_
    clear hK HTI2
    generalize W2.alloc (.cells #[.slice (some ⟨gz, 0, none⟩) pz.words.length cz, .int .i64 pz.nest, .int .i64 pz.tokens, .bool pz.plain] 172) = W3 at hti3 hG ⊢
    refine wpAnyZ_oneG (i := 8) (by kernel_rfl) rfl (by rfl) (fun K hK => ?_)
    have hfr := hti3.row.front (by simp)
    rw [hm] at hfr
    refine wp_pushG (.tmp 166) (.tmp 168) 170 172 rfl (.agg #[.slice none 0 0, .int .i64 0, .int .i64 0, .bool false]) 48 Tryz.underlying170 (by kernel_rfl) (by rfl) (show 0 < 4 by decide) w.heap.size w.heap.size g3 (keep_pg _ _) _ qs (PG.mk pz gz cz) _ rfl hfr rfl hG ⟨rfl, trivial⟩ (by unfold maxLen; omega) (by omega) (Nat.le_refl _) hti3.below.size ?_
    intro v' wz hrz hbz hgz hkz
    have hboxz := block_grown hti3.box hgz (HYB.out _)
    refine hK.out _ _ (.inr (hS _ hboxz)) ?_
    clear hK
    have hown := (hti3.own.keep (hkz 9 (by decide))).push (hti3.zown.keep (hkz 9 (by decide))) hti3.apart
    have HE := Lib.hid (And.intro hrz (And.intro hown (hti3.below.trans hbz)))
    clear hti3 hG hfr hrz hbz hgz hkz hboxz hown
    refine wpAnyZ_oneG (i := 9) (by kernel_rfl) rfl (by rfl) (fun K hK => ?_)
    go_simp
    refine hK.out _ _ (.inl (by omega)) ?_
    clear hK
    refine wpAnyZ_done (by kernel_rfl) ?_ _
    go_wp2_with fail
    go_roundw
    case rel =>
     obtain ⟨hrz, hown, hbz⟩ := HE.out
     refine ⟨i + 1, qs ++ [PG.mk pz gz cz], by go_num, by omega, HST.out wz _ _ hbz ⟨hrz, hown⟩ ?_⟩
     rw [HR.out, ← HZP.out]
     simp
    case measure => simp [Lib.intOf]; omega
    all_goals skip
   | dy p l q e hn hm hv hh r =>
    dsimp only at e hn hm
    subst hn hm
    obtain ⟨qs, yl, y, rfl, rfl, rfl, rfl⟩ := top_two hh
    obtain ⟨py, gy, cy⟩ := y
    obtain ⟨pl, gl, cl⟩ := yl
    dsimp only at r
    have hvb := HVB.out ⟨how, fn, [], []⟩ a (.string (str [])) (.slice ua 0 uc) (by dsimp only; omega) hv
    obtain ⟨hwl, hvn, -⟩ := vstr_len ⟨how, fn, [], []⟩
    generalize vstrS LL ⟨how, fn, [], []⟩ = vv at hvb hv r hwl hvn
    obtain ⟨wd, vn⟩ := vv
    dsimp only [itV] at hvb hv r hwl hvn
    have HVN := Lib.hid hvn
    clear hvn
    have t1 : (how == 1) = false := by rw [beq_eq_false_iff_ne]; omega
    have t2 : (how == 2) = false := by rw [beq_eq_false_iff_ne]; omega
    have t3 : decide (how < 3) = false := decide_eq_false (by omega)
    have t8 : decide (7 < how) = false := decide_eq_false (by omega)
    have et : wd.isEmpty = false := by
     cases wd with
     | nil => exact absurd rfl hv
     | cons x r => rfl
    have HVB2 := Lib.hid hvb; have HR := Lib.hid r; have HHV := Lib.hid hv; have HEH := Lib.hid e
    clear e hvb r hv hh zr HT HV HVB H64 h64
    obtain ⟨m, hm⟩ : ∃ m, qs.length = m := ⟨_, rfl⟩
    have hml : (qs ++ [PG.mk pl gl cl, PG.mk py gy cy]).length = m + 2 := by simp [hm]
    have HML := Lib.hid hml
    rw [hml] at HX hlen2 ⊢
    clear hml
    have hW1 : Below w.heap.size w (wr.alloc (.cells #[.int .i64 how, .int .i64 a, .int .u8 fn, .string (str []), .slice ua 0 uc] 121)) := HX.out.below.alloc HX.out.below.size _
    have hbl : Below wr.heap.size wr (wr.alloc (.cells #[.int .i64 how, .int .i64 a, .int .u8 fn, .string (str []), .slice ua 0 uc] 121)) := (Below.refl _ _).alloc (Nat.le_refl _) _
    have hit := World.alloc_heap_new wr (.cells #[.int .i64 how, .int .i64 a, .int .u8 fn, .string (str []), .slice ua 0 uc] 121)
    have HW1 := Lib.hid hW1; have HBL := Lib.hid hbl; have HIT := Lib.hid hit
    clear hW1 hbl hit
    have qlt : decide (((m + 2 : Nat) : Int) < 2) = false := decide_eq_false (by omega)
    go_upto_region 13 with fail
    refine gen_worldA (fun W => (Below w.heap.size w W ∧ Below wr.heap.size wr W) ∧ W.heap[wr.heap.size]? = _) ⟨⟨HW1.out, HBL.out⟩, HIT.out⟩ ?_
    clear HW1 HBL HIT
    rintro W1 ⟨⟨hW1, hbl⟩, hit⟩
    have ci0 := cell_of_row _ wr.heap.size 0 _ _ _ hit
    have ci1 := cell_of_row _ wr.heap.size 1 _ _ _ hit
    have ci2 := cell_of_row _ wr.heap.size 2 _ _ _ hit
    have ci3 := cell_of_row _ wr.heap.size 3 _ _ _ hit
    have ci4 := cell_of_row _ wr.heap.size 4 _ _ _ hit
    have HW1 := Lib.hid hW1; have HBL := Lib.hid hbl
    clear hW1 hbl hit
    go_cut [54] from 49 to 170 (fun s54 wx => s54 = .bool true ∧ wx = W1)
    case first =>
     rcases HEH.out with rfl | rfl
     ·go_wp2_with fail
      go_meet
      exact ⟨rfl, rfl⟩
     ·go_wp2_with fail
      go_meet
      exact ⟨rfl, rfl⟩
    case rest =>
     obtain ⟨rfl, rfl⟩ := hcut
     go_upto_region 17 with fail
     go_upto_region 18 with (go_at_call 104; (refine (HVB2.out _ HW1.out).mono ?_); rintro e w2 ⟨rfl, hb2⟩; (have HB2 := Lib.hid hb2); clear hb2)
     go_upto_region 20 with fail
     clear ci0 ci1 ci2 ci3 ci4
     have hb2 : Below wr.heap.size wr w2 := HBL.out.trans (HB2.out.mono HBL.out.size)
     have hxq := HX.out.next hb2
     obtain ⟨b1, o1, c1, e1, k0, k1, k2, k3⟩ := pg_at (x := ⟨py, gy, cy⟩) hxq.have_.row (m + 1) (by rw [List.getElem?_append_right (by omega), hm, show m + 1 - m = 1 from by omega]; rfl)
     simp only [Value.slice.injEq] at e1
     obtain ⟨rfl, -, rfl⟩ := e1
     rw [val_eq] at k0
     dsimp only at k1 k2 k3
     have htok : (py.tokens ≤ 70000 ∧ py.nest ≤ 300) ∧ pl.tokens ≤ 70000 ∧ pl.nest ≤ 300 := by
      have := HX.out.toks
      have h1 : py.tokens + pl.tokens ≤ tkH (List.map PG.p (qs ++ [PG.mk pl gl cl, PG.mk py gy cy])).reverse := by simp [tkH] <;> omega
      have h2 : py.nest + pl.nest ≤ nsH (List.map PG.p (qs ++ [PG.mk pl gl cl, PG.mk py gy cy])).reverse := by simp [nsH] <;> omega
      omega
     have hwo2 : szW py.words + szW pl.words ≤ 2000000 := by
      have := HX.out.size
      have h1 : szW py.words + szW pl.words ≤ szH (List.map PG.p (qs ++ [PG.mk pl gl cl, PG.mk py gy cy])).reverse := by simp [szH] <;> omega
      omega
     have hwo : py.words.length ≤ 2000000 := by have := szW_len py.words; omega
     have hvn : vn ≤ 2 := HVN.out
     have HXQ := Lib.hid hxq; have HB3 := Lib.hid hb2
     clear hxq hb2 HBL HB2 HW1
     go_upto_region 23 with fail
     have hmm : Below w2.heap.size w2 (w2.alloc (.cells #[.slice (some ⟨gy, 0, none⟩) py.words.length cy, .int .i64 py.nest, .int .i64 ((py.tokens : Int) + (vn : Int)), .bool false] 172)) := (Below.refl _ _).alloc (Nat.le_refl _) _
     refine gen_worldA (fun W => (Below wr.heap.size wr W ∧ HvI w.heap.size W (.slice (some ⟨b1, o1, none⟩) (qs ++ ([PG.mk pl gl cl, PG.mk py gy cy])).length hc) (qs ++ ([PG.mk pl gl cl, PG.mk py gy cy]))) ∧ W.heap[w2.heap.size]? = some (.cells #[.slice (some ⟨gy, 0, none⟩) py.words.length cy, .int .i64 py.nest, .int .i64 ((py.tokens : Int) + (vn : Int)), .bool false] 172 (0, 0))) ⟨⟨HB3.out.trans (hmm.mono HB3.out.size), HML.out.symm ▸ HXQ.out.have_.next hmm⟩, World.alloc_heap_new _ _⟩ ?_
     clear hmm k0 k1 k2 k3
     have hyw : wr.heap.size ≤ w2.heap.size := HB3.out.size
     have hww : w.heap.size ≤ wr.heap.size := HX.out.below.size
     clear HXQ HB3
     generalize w2.heap.size = y16 at hyw ⊢
     rintro W ⟨⟨hbw, hhv⟩, hbox⟩
     have kb0 := cell_of_row _ y16 0 _ _ _ hbox
     have hd : Below W.heap.size W (W.alloc (.cells #[.string (str wd)] 9)) := (Below.refl _ _).alloc (Nat.le_refl _) _
     have kb1 := cell_of_row _ y16 0 _ _ _ (block_below hbox hd)
     have HOL := Lib.hid (own_lit (M := w.heap.size) (by have := hbw.size; omega) (World.alloc_heap_new W (.cells #[.string (str wd)] 9)))
     have HSR := Lib.hid ((hhv.own.1 (PG.mk py gy cy) (by simp)).keep (KeepTy.below hd)).src
     have HMM := Lib.hid (show w.heap.size ≤ (W.alloc (.cells #[.string (str wd)] 9)).heap.size by have := hbw.size; simp; omega)
     have HBW := Lib.hid (hbw.trans (hd.mono hbw.size)); have HB16 := Lib.hid (block_below hbox hd)
     have hGw := hbw.size
     have HB17 := Lib.hid (KeepTy.below (t := 172) hd)
     obtain ⟨i0, hi0, hz0, hz1, hz2⟩ := info_parts (P := Tryz.prog) (e := 9) (z := .string ⟨#[]⟩) (size := 1) (bytes := 16) (by kernel_rfl)
     have HI0 := Lib.hid hi0; have HZ0 := Lib.hid hz0; have HZ1 := Lib.hid hz1; have HZ2 := Lib.hid hz2
     clear hbw hhv hd hi0 hz0 hz1 hz2 hbox
     go_upto_region 24 with (at_builtin; (refine wpList_append_src _ rfl _ _ 85 rfl w.heap.size 9 i0 (.string ⟨#[]⟩) 1 16 Tryz.underlying85 HI0.out HZ0.out HZ1.out HZ2.out rfl (show 0 < 1 by decide) _ 1 [.string (str wd)] rfl HOL.out _ py.words.length (wcells py.words) rfl HSR.out (by rw [wcells_len, Nat.mul_one]) (wcells_one _) (by unfold maxLen; omega) (by omega) HMM.out ?_); intro v' wz hrz hgz hnz; (have hb16 : wz.heap[y16]? = _ := KeepTy.grown (t := 172) hgz (fun g e => by cases e; exact NotTy.of (World.alloc_heap_new W (.cells #[.string (str wd)] 9)) (by decide)) _ _ HB16.out); (have kz0 := cell_of_row _ y16 0 _ _ _ hb16); (have fz0 := frozen_of_row _ y16 0 _ _ hb16); (have HVS := Lib.hid (vs_made HBW.out hww hGw hyw hrz hgz hnz hb16)); (obtain ⟨vg, vc2, rfl⟩ := Go.Joins.ownsRow_form hrz (by omega)); clear hrz hgz hnz hb16)
     refine gen_worldA (fun W => ∃ z, VsI w wr y16 ⟨wd :: py.words, py.nest, py.tokens + vn, false⟩ W z) HVS.out ?_
     all_goals skip
     rintro W ⟨⟨pz, gz, cz⟩, hzp, hzb, hzo, hzg, hzx⟩
     dsimp only at hzp hzo hzg hzx
     have hxw := HX.out.next hzb
     have hlo := hxw.have_.own.1 (PG.mk pl gl cl) (by simp)
     have hlne : pl.words ≠ [] := hlo.2
     obtain ⟨b2, o2, c2, e1, k0, k1, k2, k3⟩ := pg_at (x := ⟨pl, gl, cl⟩) hxw.have_.row m (by rw [List.getElem?_append_right (by omega), hm, Nat.sub_self]; rfl)
     simp only [Value.slice.injEq, Option.some.injEq, Addr.mk.injEq] at e1
     obtain ⟨⟨rfl, rfl, -⟩, -, rfl⟩ := e1
     rw [val_eq] at k0
     dsimp only at k1 k2 k3
     have hyb : ∀ y n, wr.heap.size ≤ y → (Value.slice (some ⟨b1, o1, none⟩) n hc).ownBlock ≠ some y := fun y n hy e => by
      have h1 := rowg_lt HX.out.have_.row (g := y) e
      omega
     have hls : LS w (.slice (some ⟨b1, o1, none⟩) (m + 2) hc) qs [PG.mk pl gl cl, PG.mk py gy cy] y16 W.heap.size ⟨pz, gz, cz⟩ ⟨pl, gl, cl⟩ (W.alloc (.cells #[.slice (some ⟨gl, 0, none⟩) pl.words.length cl, .int .i64 pl.nest, .int .i64 pl.tokens, .bool pl.plain] 172)) := by
      have hd : Below W.heap.size W (W.alloc (.cells #[.slice (some ⟨gl, 0, none⟩) pl.words.length cl, .int .i64 pl.nest, .int .i64 pl.tokens, .bool pl.plain] 172)) := (Below.refl _ _).alloc (Nat.le_refl _) _
      have hxd := hxw.next hd
      have hy := block_lt hzx
      have hzs := hzb.size
      refine ⟨hxd.below, hxd.have_.row, ?_, hzo.keep (KeepTy.below hd), ?_, block_below hzx hd, World.alloc_heap_new _ _, by omega, hyb _ _ hyw, hyb _ _ hzs, by omega, by omega⟩
      ·have h := hxd.have_.own
       rw [show qs ++ [PG.mk pl gl cl, PG.mk py gy cy] = (qs ++ [PG.mk pl gl cl]) ++ [PG.mk py gy cy] by simp] at h
       exact h.front
      ·intro q hq
       have : q.g < wr.heap.size := HX.out.have_.own.lt q (by
        rcases List.mem_append.1 hq with hq | hq
        ·exact List.mem_append_left _ hq
        ·rw [List.mem_singleton.1 hq]; simp)
       dsimp only
       omega
     have HLS := Lib.hid hls; have HZP := Lib.hid hzp; have HYB := Lib.hid hyb
     clear hls hzp hzb hzo hzg hzx hxw hlo hyb
     go_upto_region 26 with fail
     refine gen_worldA (fun X => LS w (.slice (some ⟨b1, o1, none⟩) (m + 2) hc) qs [PG.mk pl gl cl, PG.mk py gy cy] y16 W.heap.size ⟨pz, gz, cz⟩ ⟨pl, gl, cl⟩ X) HLS.out ?_
     clear HLS k0 k1 k2 k3
     generalize W.heap.size = y17
     clear W
     rintro W hls
     have m0 := cell_of_row _ y17 0 _ _ _ hls.b17
     have m1 := cell_of_row _ y17 1 _ _ _ hls.b17
     have m2 := cell_of_row _ y17 2 _ _ _ hls.b17
     have m3 := cell_of_row _ y17 3 _ _ _ hls.b17
     dsimp only at m0 m1 m2 m3
     have HLS := Lib.hid hls
     clear hls
     go_upto_if 116 with fail
     go_cut [] from 117 to 170 (fun wx => ∃ l' : PG, l'.p = leftP pl ∧ LS w (.slice (some ⟨b1, o1, none⟩) (m + 2) hc) qs [PG.mk pl gl cl, PG.mk py gy cy] y16 y17 ⟨pz, gz, cz⟩ l' wx)
     case first =>
      obtain ⟨plw, pln, plt, plp⟩ := pl
      dsimp only at m0 m1 m2 m3 hlne hwo2 htok
      cases plp with
      | true =>
       go_wp2_with fail
       go_meet
       exact ⟨⟨⟨plw, pln, plt, true⟩, gl, cl⟩, rfl, HLS.out⟩
      | false =>
       obtain ⟨n, hn⟩ : ∃ n, plw.length = n + 1 := by
        cases plw with
        | nil => exact absurd rfl hlne
        | cons x r => exact ⟨r.length, rfl⟩
       obtain ⟨s0, hs0⟩ : ∃ s, plw[0]? = some s := ⟨_, List.getElem?_eq_getElem (by omega)⟩
       obtain ⟨s1, hs1⟩ : ∃ s, (plw.set 0 (40 :: s0))[n]? = some s := ⟨_, List.getElem?_eq_getElem (by simp; omega)⟩
       have hl0 : s0.length ≤ 2000000 := by have := szW_mem (List.mem_of_getElem? hs0); omega
       have hl1 : s1.length ≤ 2000001 := by
        rcases List.mem_or_eq_of_mem_set (List.mem_of_getElem? hs1) with h | h
        ·have := szW_mem h; omega
        ·rw [h]; simp; omega
       have hn9 : n + 1 ≤ 2000000 := by have := szW_len plw; omega
       obtain ⟨d0, f0⟩ := HLS.out.lown.cell (k := 0) hs0
       dsimp only at d0 f0
       rw [hn] at m0
       have HS1 := Lib.hid hs1; have HS0 := Lib.hid hs0; have HN := Lib.hid hn
       clear hs1 hs0 hn
       go_upto_region 27 with fail
       go_region
       go_upto_region 28 with fail
       refine gen_worldA (fun X => LS w (.slice (some ⟨b1, o1, none⟩) (m + 2) hc) qs [PG.mk ⟨plw, pln, plt, false⟩ gl cl, PG.mk py gy cy] y16 y17 ⟨pz, gz, cz⟩ ⟨⟨plw.set 0 (40 :: s0), pln, plt, false⟩, gl, cl⟩ X) ((HLS.out.next (Below.drew (Below.refl _ _))).setW (k := 0) (by rw [HN.out]; omega) (40 :: s0) ⟨plw.set 0 (40 :: s0), pln, plt, false⟩ rfl rfl rfl rfl) ?_
       clear HLS m0 m1 m2 m3 d0 f0
       rintro X hls
       have hll : (plw.set 0 (40 :: s0)).length = n + 1 := by rw [List.length_set]; exact HN.out
       have m0 := cell_of_row _ y17 0 _ _ _ hls.b17
       obtain ⟨d0, f0⟩ := hls.lown.cell (k := n) HS1.out
       dsimp only at m0 d0 f0
       rw [hll] at m0
       have HLS := Lib.hid hls; have HLL := Lib.hid hll
       clear hls hll
       go_upto_region 29 with fail
       refine gen_worldA (fun X => LS w (.slice (some ⟨b1, o1, none⟩) (m + 2) hc) qs [PG.mk ⟨plw, pln, plt, false⟩ gl cl, PG.mk py gy cy] y16 y17 ⟨pz, gz, cz⟩ ⟨⟨(plw.set 0 (40 :: s0)).set n (s1 ++ [41]), pln, plt, false⟩, gl, cl⟩ X) (HLS.out.setW (k := n) (by dsimp only; rw [HLL.out]; omega) (s1 ++ [41]) ⟨(plw.set 0 (40 :: s0)).set n (s1 ++ [41]), pln, plt, false⟩ rfl rfl rfl rfl) ?_
       clear HLS m0 d0 f0
       rintro X hls
       have m1 := cell_of_row _ y17 1 _ _ _ hls.b17
       have m2 := cell_of_row _ y17 2 _ _ _ hls.b17
       have f1 := frozen_of_row _ y17 1 _ _ hls.b17
       have f2 := frozen_of_row _ y17 2 _ _ hls.b17
       dsimp only at m1 m2
       have HLS := Lib.hid hls
       clear hls
       go_wp2_with fail
       go_meet
       have eb := brack_set HS0.out (by rw [HN.out]; exact HS1.out)
       rw [HN.out, Nat.add_sub_cancel] at eb
       refine ⟨⟨⟨brackW plw, pln + 1, plt + 2, false⟩, gl, cl⟩, rfl, ?_⟩
       exact HLS.out.setN ⟨brackW plw, pln + 1, plt + 2, false⟩ eb rfl
     case rest =>
      clear HLS m0 m1 m2 m3
      obtain ⟨⟨px, gx, cx⟩, hxp, hls⟩ := hcut
      dsimp only at hxp
      have hpsz := leftP_sz hlne
      rw [← hxp] at hpsz
      obtain ⟨hp1, hp2, hp3⟩ := hpsz
      have hpxl := szW_len px.words
      have hpos : 0 < px.words.length := List.length_pos_iff.2 hls.lown.2
      have hpxb : px.words.length ≤ 2000002 := by omega
      have hzw : pz.words.length ≤ 2000001 := by rw [HZP.out]; simp; omega
      have hzt : pz.tokens ≤ 70002 := by rw [HZP.out]; dsimp only; omega
      have hzn : pz.nest ≤ 300 := by rw [HZP.out]; dsimp only; omega
      have hzq : pz.plain = false := by rw [HZP.out]
      have HXP := Lib.hid hxp; have HZQ := Lib.hid hzq
      have n0 := cell_of_row _ y16 0 _ _ _ hls.b16
      have n1 := cell_of_row _ y16 1 _ _ _ hls.b16
      have n2 := cell_of_row _ y16 2 _ _ _ hls.b16
      have m0 := cell_of_row _ y17 0 _ _ _ hls.b17
      have m1 := cell_of_row _ y17 1 _ _ _ hls.b17
      have m2 := cell_of_row _ y17 2 _ _ _ hls.b17
      have hol := hls.lown.1
      have hsr := hls.zown.src
      rw [val_eq] at hol hsr
      dsimp only at n0 n1 n2 m0 m1 m2 hol hsr
      have HOL := Lib.hid hol; have HSR := Lib.hid hsr; have HMM := Lib.hid hls.below.size; have HLS := Lib.hid hls
      clear hol hsr hls hxp hzq hlne hwo2
      go_upto_region 34 with (at_builtin; (refine wpList_append_src _ rfl _ _ 85 rfl w.heap.size 9 i0 (.string ⟨#[]⟩) 1 16 Tryz.underlying85 HI0.out HZ0.out HZ1.out HZ2.out rfl (show 0 < 1 by decide) _ px.words.length (wcells px.words) rfl HOL.out _ pz.words.length (wcells pz.words) rfl HSR.out (by rw [wcells_len, Nat.mul_one]) (wcells_one _) (by unfold maxLen; omega) (by omega) HMM.out ?_); intro v' wz hrz hgz hnz; (have kt := KeepTy.grown (t := 172) hgz (fun g e => by obtain ⟨cur, hh, -⟩ := HLS.out.lown.block; cases e; exact NotTy.of hh (by decide))); (have n0 := cell_of_row _ y16 0 _ _ _ (kt _ _ HLS.out.b16)); (have n1 := cell_of_row _ y16 1 _ _ _ (kt _ _ HLS.out.b16)); (have n2 := cell_of_row _ y16 2 _ _ _ (kt _ _ HLS.out.b16)); (have g0 := frozen_of_row _ y16 0 _ _ (kt _ _ HLS.out.b16)); (have g1 := frozen_of_row _ y16 1 _ _ (kt _ _ HLS.out.b16)); (have g2 := frozen_of_row _ y16 2 _ _ (kt _ _ HLS.out.b16)); (have m1 := cell_of_row _ y17 1 _ _ _ (kt _ _ HLS.out.b17)); (have m2 := cell_of_row _ y17 2 _ _ _ (kt _ _ HLS.out.b17)); (have HD := Lib.hid (HLS.out.done hrz hgz hnz HZQ.out)); (obtain ⟨vg, vc2, rfl⟩ := Go.Joins.ownsRow_form hrz (by omega)); dsimp only at n0 n1 n2 m1 m2; clear hrz hgz hnz kt HLS)
      refine gen_worldA (fun X => ∃ z' : PG, z'.p = ⟨px.words ++ pz.words, max pz.nest px.nest, pz.tokens + px.tokens, false⟩ ∧ TI w (.slice (some ⟨b1, o1, none⟩) (m + 2) hc) qs [PG.mk pl gl cl, PG.mk py gy cy] y16 z' X) HD.out ?_
      clear HD n0 n1 n2 g0 g1 g2 m1 m2
      have hzz : (⟨px.words ++ pz.words, max pz.nest px.nest, pz.tokens + px.tokens, false⟩ : Pc) = ⟨(if pl.plain then pl.words else brackW pl.words) ++ (wd :: py.words), max py.nest (if pl.plain then pl.nest else pl.nest + 1), py.tokens + vn + (if pl.plain then pl.tokens else pl.tokens + 2), false⟩ := by
       rw [HZP.out, HXP.out]
       rfl
      rw [hzz]
      clear hzz HZP HXP HOL HSR HMM HZQ
      rintro W ⟨⟨pz, gz, cz⟩, hzp, hti⟩
      dsimp only at hzp
      have HTI := Lib.hid hti; have HZP := Lib.hid hzp
      clear hti hzp
      have hyb : ∀ n, (Value.slice (some ⟨b1, o1, none⟩) n hc).ownBlock ≠ some y16 := fun n e => by
       have h1 := rowg_lt HX.out.have_.row (g := y16) e
       omega
      have hcap : m + 2 ≤ hc := by
       obtain ⟨_, _, e, h1, _⟩ := HTI.out.row.sl
       simp only [Value.slice.injEq] at e
       obtain ⟨-, e2, rfl⟩ := e
       omega
      have hm63 : m ≤ 9223372036854775807 := by omega
      have hmi : (m : Int) ≤ 9223372036854775807 := by omega
      have hmc : m ≤ hc := by omega
      have hw64 := Lib.hid (IntWalk.i64_in (m : Int) (by omega))
      have HYB := Lib.hid hyb
      clear hyb
      refine wp_region_Z (S := fun W' => (W'.cell? ⟨y16, 0, none⟩ = some (.slice (some ⟨gz, 0, none⟩) pz.words.length cz) ∧ W'.cell? ⟨y16, 1, none⟩ = some (.int .i64 pz.nest)) ∧ (W'.cell? ⟨y16, 2, none⟩ = some (.int .i64 pz.tokens) ∧ W'.cell? ⟨y16, 3, none⟩ = some (.bool pz.plain))) (z := 9) (by kernel_rfl) ?_
      have HTI2 := Lib.hid (HTI.out.next (Below.drew (Below.refl _ _)))
      clear HTI
      generalize W.drew = W2 at HTI2 ⊢
      have hS : ∀ W' : World, W'.heap[y16]? = some (.cells #[.slice (some ⟨gz, 0, none⟩) pz.words.length cz, .int .i64 pz.nest, .int .i64 pz.tokens, .bool pz.plain] 172 (0, 0)) → (fun W' : World => (W'.cell? ⟨y16, 0, none⟩ = some (.slice (some ⟨gz, 0, none⟩) pz.words.length cz) ∧ W'.cell? ⟨y16, 1, none⟩ = some (.int .i64 pz.nest)) ∧ (W'.cell? ⟨y16, 2, none⟩ = some (.int .i64 pz.tokens) ∧ W'.cell? ⟨y16, 3, none⟩ = some (.bool pz.plain))) W' := fun W' h => ⟨⟨cell_of_row _ y16 0 _ _ _ h, cell_of_row _ y16 1 _ _ _ h⟩, cell_of_row _ y16 2 _ _ _ h, cell_of_row _ y16 3 _ _ _ h⟩
      have hS0 := hS _ HTI2.out.box
      refine wpAnyZ_take (i := 0) (v := ?_) rfl (by kernel_rfl) (by kernel_rfl) (by kernel_rfl) (fun _ _ _ h => h) (by kernel_rfl) (Or.inl ⟨by rfl, ?_⟩) (by assumption) ?_
      rotate_left
      ·intro w' hSw
       try dsimp only at hSw
       try obtain ⟨hSw, hSw2⟩ := hSw
       go_simp
       try with_reducible rfl
      show wpAnyZ _ _ _ _ _ _ _ _ (Act.put _ (some 161) _) _
      simp only [Act.put, List.setIfInBounds_toArray, List.set_cons_zero, List.set_cons_succ]
      refine wpAnyZ_take (i := 1) (v := ?_) rfl (by kernel_rfl) (by kernel_rfl) (by kernel_rfl) (fun _ _ _ h => h) (by kernel_rfl) (Or.inl ⟨by rfl, ?_⟩) (by assumption) ?_
      rotate_left
      ·intro w' hSw
       try dsimp only at hSw
       try obtain ⟨hSw, hSw2⟩ := hSw
       go_simp
       try with_reducible rfl
      show wpAnyZ _ _ _ _ _ _ _ _ (Act.put _ (some 162) _) _
      simp only [Act.put, List.setIfInBounds_toArray, List.set_cons_zero, List.set_cons_succ]
      refine wpAnyZ_take (i := 2) (v := ?_) rfl (by kernel_rfl) (by kernel_rfl) (by kernel_rfl) (fun _ _ _ h => h) (by kernel_rfl) (Or.inl ⟨by rfl, ?_⟩) (by assumption) ?_
      rotate_left
      ·intro w' hSw
       try dsimp only at hSw
       try obtain ⟨hSw, hSw2⟩ := hSw
       go_simp
       try with_reducible rfl
      show wpAnyZ _ _ _ _ _ _ _ _ (Act.put _ (some 163) _) _
      simp only [Act.put, List.setIfInBounds_toArray, List.set_cons_zero, List.set_cons_succ]
      refine wpAnyZ_take (i := 3) (v := ?_) rfl (by kernel_rfl) (by kernel_rfl) (by kernel_rfl) (fun _ _ _ h => h) (by kernel_rfl) (Or.inl ⟨by rfl, ?_⟩) (by assumption) ?_
      rotate_left
      ·intro w' hSw
       try dsimp only at hSw
       try obtain ⟨hSw, hSw2⟩ := hSw
       go_simp
       try with_reducible rfl
      show wpAnyZ _ _ _ _ _ _ _ _ (Act.put _ (some 164) _) _
      simp only [Act.put, List.setIfInBounds_toArray, List.set_cons_zero, List.set_cons_succ]
      refine wpAnyZ_take (i := 4) (v := ?_) rfl (by kernel_rfl) (by kernel_rfl) (by kernel_rfl) (fun _ _ _ h => h) (by kernel_rfl) (Or.inl ⟨by rfl, ?_⟩) (by assumption) ?_
      rotate_left
      ·intro w' hSw
       try dsimp only at hSw
       try obtain ⟨hSw, hSw2⟩ := hSw
       go_simp
       try with_reducible rfl
      show wpAnyZ _ _ _ _ _ _ _ _ (Act.put _ (some 165) _) _
      simp only [Act.put, List.setIfInBounds_toArray, List.set_cons_zero, List.set_cons_succ]
      rw [hw64.out]
      refine wpAnyZ_take (i := 5) (v := .slice (some ⟨b1, o1, none⟩) m hc) rfl (by kernel_rfl) (by kernel_rfl) (by kernel_rfl) (fun _ _ _ h => h) (by kernel_rfl) (Or.inl ⟨by rfl, ?_⟩) (by assumption) ?_
      ·intro w' hSw
       clear hSw
       go_simp
       first
        | done
        | (rw [if_pos ⟨by omega, by omega⟩]; first | rfl | simp)
      show wpAnyZ _ _ _ _ _ _ _ _ (Act.put _ (some 166) _) _
      simp only [Act.put, List.setIfInBounds_toArray, List.set_cons_zero, List.set_cons_succ]
      refine wpAnyZ_take (i := 6) (v := ?_) rfl (by kernel_rfl) (by kernel_rfl) (by kernel_rfl) (fun _ _ _ h => h) (by kernel_rfl) (Or.inl ⟨by rfl, ?_⟩) (by assumption) ?_
      rotate_left
      ·intro w' hSw
       try dsimp only at hSw
       try obtain ⟨hSw, hSw2⟩ := hSw
       go_simp
       try with_reducible rfl
      show wpAnyZ _ _ _ _ _ _ _ _ (Act.put _ (some 167) _) _
      simp only [Act.put, List.setIfInBounds_toArray, List.set_cons_zero, List.set_cons_succ]
      clear hS0
      refine wpAnyZ_oneG (i := 7) (by kernel_rfl) rfl (by rfl) (fun K hK => ?_)
      go_simp
      have hti3 := HTI2.out.next ((Below.refl _ _).alloc (Nat.le_refl _) (.cells #[.slice (some ⟨gz, 0, none⟩) pz.words.length cz, .int .i64 pz.nest, .int .i64 pz.tokens, .bool pz.plain] 172))
      have hG := World.alloc_heap_new W2 (.cells #[.slice (some ⟨gz, 0, none⟩) pz.words.length cz, .int .i64 pz.nest, .int .i64 pz.tokens, .bool pz.plain] 172)
      obtain ⟨g3, hg3⟩ : ∃ g, W2.heap.size = g := ⟨_, rfl⟩
      rw [hg3] at hG ⊢
      refine hK.out _ _ (.inr (hS _ hti3.box)) ?_
      clear hK HTI2
      generalize W2.alloc (.cells #[.slice (some ⟨gz, 0, none⟩) pz.words.length cz, .int .i64 pz.nest, .int .i64 pz.tokens, .bool pz.plain] 172) = W3 at hti3 hG ⊢
      refine wpAnyZ_oneG (i := 8) (by kernel_rfl) rfl (by rfl) (fun K hK => ?_)
      have hfr := hti3.row.front (by simp)
      rw [hm] at hfr
      refine wp_pushG (.tmp 166) (.tmp 168) 170 172 rfl (.agg #[.slice none 0 0, .int .i64 0, .int .i64 0, .bool false]) 48 Tryz.underlying170 (by kernel_rfl) (by rfl) (show 0 < 4 by decide) w.heap.size w.heap.size g3 (keep_pg _ _) _ qs (PG.mk pz gz cz) _ rfl hfr rfl hG ⟨rfl, trivial⟩ (by unfold maxLen; omega) (by omega) (Nat.le_refl _) hti3.below.size ?_
      intro v' wz hrz hbz hgz hkz
      have hboxz := block_grown hti3.box hgz (HYB.out _)
      refine hK.out _ _ (.inr (hS _ hboxz)) ?_
      clear hK
      have hown := (hti3.own.keep (hkz 9 (by decide))).push (hti3.zown.keep (hkz 9 (by decide))) hti3.apart
      have HE := Lib.hid (And.intro hrz (And.intro hown (hti3.below.trans hbz)))
      clear hti3 hG hfr hrz hbz hgz hkz hboxz hown
      refine wpAnyZ_oneG (i := 9) (by kernel_rfl) rfl (by rfl) (fun K hK => ?_)
      go_simp
      refine hK.out _ _ (.inl (by omega)) ?_
      clear hK
      refine wpAnyZ_done (by kernel_rfl) ?_ _
      go_wp2_with fail
      go_roundw
      case rel =>
       obtain ⟨hrz, hown, hbz⟩ := HE.out
       refine ⟨i + 1, qs ++ [PG.mk pz gz cz], by go_num, by omega, HST.out wz _ _ hbz ⟨hrz, hown⟩ ?_⟩
       rw [HR.out, ← HZP.out]
       simp
      case measure => simp [Lib.intOf]; omega
      all_goals skip
  ·obtain rfl : i = items.length := by omega
   have hrun := hx.run
   rw [List.drop_length] at hrun
   have hps := Option.some.inj hrun
   obtain ⟨x, rfl, hxp⟩ : ∃ x, ps = [x] ∧ x.p = pf := by
    have h := congrArg List.reverse hps
    rw [List.reverse_reverse] at h
    cases ps with
    | nil => cases h
    | cons x r =>
     cases r with
     | cons y r => cases h
     | nil => exact ⟨x, rfl, by cases h; rfl⟩
   obtain ⟨px, g, cap⟩ := x
   dsimp only at hxp
   subst hxp
   obtain ⟨b1, o1, c1, e1, k0, k1, k2, -⟩ := pg_at (x := ⟨px, g, cap⟩) hx.have_.row 0 rfl
   cases e1
   rw [val_eq] at k0
   rw [Nat.zero_mul, Nat.add_zero] at k0 k1 k2
   have hj := fun (W : World) (hW : Below wr.heap.size wr W) => join_c g cap px ((hx.have_.own.1 ⟨px, g, cap⟩ (by simp)).keep (KeepTy.below hW)) (by
    have := hx.size
    have h2 := hx.len
    have h3 : (szW px.words) ≤ szH (List.map PG.p [⟨px, g, cap⟩]).reverse := by simp [szH]
    omega)
   have htl : (joinS [32] px.words).length ≤ 2000000 := by
    have := hx.size
    have h3 : (szW px.words) ≤ szH (List.map PG.p [⟨px, g, cap⟩]).reverse := by simp [szH]
    have := join_len px.words
    omega
   have HJ := Lib.hid hj; have HX := Lib.hid hx
   clear hj hx hrun hps
   have q : decide ((items.length : Int) < (items.length : Int)) = false := decide_eq_false (by omega)
   have q1 : decide ((most : Int) < (px.tokens : Int)) = false := decide_eq_false (by omega)
   have q2 : decide (32 < (px.nest : Int)) = false := decide_eq_false (by omega)
   dsimp only at k1 k2
   go_wp2_with (go_at_call 105; (refine (HJ.out _ (Below.refl _ _)).mono ?_); rintro e w2 ⟨rfl, hb2⟩; (have HB2 := Lib.hid hb2); clear hb2)
   refine bodyPost_ret (results_t2 rfl _ _ rfl rfl) rfl ⟨rfl, HX.out.below.trans (HB2.out.mono HX.out.below.size), htl⟩
end Go.Proofs.YtokghjnkfabgiaaGreatDoor

namespace Go.Proofs.YtokghjnkfabgiaaGreatDoor
open Go.RowKit Go.Lib Go.Maps

section
variable {et mt : TypeId} {z : Value}
def heldV (v : Value) : Option (DataW Value × List MemPlace) := some (.held v, [])
def MapV (z : Value) (B n : Nat) (M : Str → Option Value) (w : World) : Prop :=
 ∃ D : DataW Value, w.ownsMap Tryz.prog 9 heldV B n D ∧ IsMap D ∧ ∀ k, D.atKey (.string k) (.held z) = .held ((M k).getD z) ∧ has D (.string k) = (M k).isSome
theorem litKeyS (k : Str) : WideAt.IsKeyLit (.string k) := by first | trivial | exact .string _ | simp [WideAt.IsKeyLit]
theorem litNeS {j k : Str} (h : j ≠ k) : (Lit.string j) ≠ .string k := fun e => h (by cases e; rfl)
theorem keyed_str : Keyed Tryz.prog 9 := string_keyed Tryz.underlying9
theorem key_str {k : Str} (h : k.length ≤ maxLen) : keyOf Tryz.prog 9 (.string (str k)) = some (.string k) := by
 have e : (str k).size = k.length := str_size _
 have e2 : (str k).data.toList = k := ls_str k
 simp [keyOf, mapKey, Tryz.underlying9, e, e2, h]
theorem MapV.made (w : World) : MapV z w.heap.size 0 (fun _ => none) (w.alloc (.map #[] 0)) :=
 ⟨.map [], World.ownsMap_made _ _ _ _, isMap_empty, fun k => ⟨rfl, rfl⟩⟩
theorem MapV.lt {B n : Nat} {M : Str → Option Value} {w : World} (h : MapV z B n M w) : B < w.heap.size := by
 obtain ⟨D, ⟨es, clock, h1, h2⟩, h3⟩ := h
 exact (Array.getElem?_eq_some_iff.1 h1).1
theorem MapV.kept {B n : Nat} {M : Str → Option Value} {w w' : World} (h : MapV z B n M w) (hb : w'.heap[B]? = w.heap[B]?) : MapV z B n M w' := by
 obtain ⟨D, ⟨es, clock, h1, h2⟩, h3⟩ := h
 exact ⟨D, ⟨es, clock, hb.trans h1, h2⟩, h3⟩
theorem MapV.below {B n : Nat} {M : Str → Option Value} {w w' : World} (h : MapV z B n M w) (hb : Below w.heap.size w w') : MapV z B n M w' := h.kept (hb.block B h.lt)
def putV (M : Str → Option Value) (k : Str) (v : Value) : Str → Option Value := fun j => if j = k then some v else M j
theorem MapV.put {B n : Nat} {M : Str → Option Value} {w : World} (hm : Tryz.prog.underlying mt = some (.map 9 et)) (h : MapV z B n M w) (hn : n < maxLen) (k : Str) (hk : k.length ≤ maxLen) (v : Value) :
  ∃ w', (Instr.mapUpdate mt (.map (some B)) (.string (str k)) v).run Tryz.prog w = .ok () w' ∧ MapV z B (n + 1) (putV M k v) w' ∧ w.grownBy w' (some B) := by
 obtain ⟨D, hD, hi, hM⟩ := h
 obtain ⟨w', h1, h2, h3⟩ := hD.update keyed_str hm hn (key_str hk) (show heldV v = some (.held v, []) from rfl)
 refine ⟨w', h1, ⟨_, h2, hi.put _ _, fun j => ?_⟩, h3⟩
 unfold putV
 by_cases hj : j = k
 ·subst hj
  rw [if_pos rfl, atKey_put_same hi (litKeyS _), has_put_same hi (litKeyS _)]
  exact ⟨rfl, rfl⟩
 ·rw [if_neg hj, atKey_put_other (litNeS hj), has_put_other (litNeS hj)]
  exact hM j
theorem MapV.look {B n : Nat} {M : Str → Option Value} {w : World} (hm : Tryz.prog.underlying mt = some (.map 9 et)) (hz : (zeroValue et).run Tryz.prog w = .ok z w) (h : MapV z B n M w) (k : Str) (hk : k.length ≤ maxLen) :
  (Instr.lookup mt (.map (some B)) (.string (str k)) true).run Tryz.prog w = .ok (.tuple #[(M k).getD z, .bool (M k).isSome]) w := by
 obtain ⟨D, hD, hi, hM⟩ := h
 obtain ⟨v, ps, hr, hv⟩ := hD.look_ok keyed_str hm hz (show heldV z = some (.held z, []) from rfl) (key_str hk)
 obtain ⟨h1, h2⟩ := hM k
 rw [h1] at hv
 have e : v = (M k).getD z := by
  unfold heldV at hv
  simp only [Option.some.injEq, Prod.mk.injEq] at hv
  have := hv.1
  injection this
 rw [hr, h2, e]
theorem MapV.get {B n : Nat} {M : Str → Option Value} {w : World} (hm : Tryz.prog.underlying mt = some (.map 9 et)) (hz : (zeroValue et).run Tryz.prog w = .ok z w) (h : MapV z B n M w) (k : Str) (hk : k.length ≤ maxLen) :
  (Instr.lookup mt (.map (some B)) (.string (str k)) false).run Tryz.prog w = .ok ((M k).getD z) w := by
 obtain ⟨D, hD, hi, hM⟩ := h
 obtain ⟨v, ps, hr, hv⟩ := hD.lookup keyed_str hm hz (show heldV z = some (.held z, []) from rfl) (key_str hk)
 obtain ⟨h1, h2⟩ := hM k
 rw [h1] at hv
 have e : v = (M k).getD z := by
  unfold heldV at hv
  simp only [Option.some.injEq, Prod.mk.injEq] at hv
  have := hv.1
  injection this
 rw [hr, e]
end
end Go.Proofs.YtokghjnkfabgiaaGreatDoor
