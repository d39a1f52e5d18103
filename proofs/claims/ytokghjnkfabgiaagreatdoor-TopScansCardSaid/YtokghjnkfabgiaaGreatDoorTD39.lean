import Derived.Test.YtokghjnkfabgiaaGreatDoorTD37
import Derived.Test.YtokghjnkfabgiaaGreatDoorTD38
set_option linter.unusedVariables false
set_option linter.unusedSimpArgs false
set_option maxRecDepth 100000
namespace Go.Proofs.YtokghjnkfabgiaaGreatDoor
open Go.RowKit Go.Lib
attribute [local go_sem] str_size str_get str_toList field_tok0 field_tok2 field_tok3

def PrI (M Bp : Nat) (w : World) (p : PrgP) : Prop := ∃ iv lv, w.heap[Bp]? = some (.cells #[iv, lv] 25 (0, 0)) ∧ RowG inpR M 79 w iv p.inputs ∧ RowG linR M 67 w lv p.lines
theorem inp_keep {w w' : World} (hk : KeepTy 81 w w') (cs : List Value) (x : InpP) (h : inpR.At w cs x) : inpR.At w' cs x := by
 obtain ⟨a, v, e, h⟩ := h
 exact ⟨a, v, e, h.same (w' := w') (fun _ _ h => h) hk⟩
theorem lin_keep {w w' : World} (h1 : KeepTy 121 w w') (h2 : KeepTy 2 w w') (cs : List Value) (x : LinP) (h : linR.At w cs x) : linR.At w' cs x := by
 obtain ⟨a, v, e, h⟩ := h
 exact ⟨a, v, e, h.same (w' := w') (fun cs y ⟨a, v, e, h⟩ => ⟨a, v, e, h.keepTy h2⟩) h1⟩
theorem PrI.keep {M Bp : Nat} {w w' : World} {p : PrgP} (h : PrI M Bp w p) (hk : ∀ u, u = 25 ∨ u = 79 ∨ u = 67 ∨ u = 81 ∨ u = 121 ∨ u = 2 → KeepTy u w w') : PrI M Bp w' p := by
 obtain ⟨iv, lv, h1, h2, h3⟩ := h
 exact ⟨iv, lv, hk _ (by simp) _ _ h1, h2.same (inp_keep (hk _ (by simp))) (hk _ (by simp)), h3.same (lin_keep (hk _ (by simp)) (hk _ (by simp))) (hk _ (by simp))⟩
theorem PrI.next {M Bp : Nat} {w w' : World} {p : PrgP} (h : PrI M Bp w p) (hb : Below w.heap.size w w') : PrI M Bp w' p := h.keep fun u _ => KeepTy.below hb
theorem Rep.Cs.turn {α : Type} {R : Rep α} {w w' : World} (hR : ∀ cs x, R.At w cs x → R.At w' cs x) : ∀ {xs : List α} {cs : List Value}, R.Cs w cs xs → R.Cs w' cs xs
 | [], cs, h => h
 | x :: xs, cs, ⟨ds, r, e, h3, h4⟩ => ⟨ds, r, e, hR _ _ h3, Rep.Cs.turn hR h4⟩
def KeepO (Bp : Nat) (w w' : World) : Prop := ∀ (g : Nat) (cur : Array Value), g ≠ Bp → w.heap[g]? = some (.cells cur 25 (0, 0)) → w'.heap[g]? = some (.cells cur 25 (0, 0))
def PrX (M Bp : Nat) (w : World) (p : PrgP) (iv lv : Value) : Prop := w.heap[Bp]? = some (.cells #[iv, lv] 25 (0, 0)) ∧ RowG inpR M 79 w iv p.inputs ∧ RowG linR M 67 w lv p.lines
theorem PrX.keep {M Bp : Nat} {w w' : World} {p : PrgP} {iv lv : Value} (h : PrX M Bp w p iv lv) (hk : ∀ u, u = 25 ∨ u = 79 ∨ u = 67 ∨ u = 81 ∨ u = 121 ∨ u = 2 → KeepTy u w w') : PrX M Bp w' p iv lv := by
 obtain ⟨h1, h2, h3⟩ := h
 exact ⟨hk _ (by simp) _ _ h1, h2.same (inp_keep (hk _ (by simp))) (hk _ (by simp)), h3.same (lin_keep (hk _ (by simp)) (hk _ (by simp))) (hk _ (by simp))⟩
theorem PrX.other {M Bp y : Nat} {w w' : World} {p : PrgP} {iv lv : Value} {cs : Array Value} {t : TypeId} (h : PrX M Bp w p iv lv) (hg : w.grownBy w' (some y)) (hy : w.heap[y]? = some (.cells cs t (0, 0))) (ht : t ≠ 25 ∧ t ≠ 81 ∧ t ≠ 121 ∧ t ≠ 2) (h1 : iv.ownBlock ≠ some y) (h2 : lv.ownBlock ≠ some y) : PrX M Bp w' p iv lv := by
 have k : ∀ u, t ≠ u → KeepTy u w w' := fun u hu => KeepTy.grown hg (fun g e => by cases e; exact NotTy.of hy hu)
 obtain ⟨hb, ⟨cs1, ha, hb1⟩, cs2, hc, hd⟩ := h
 obtain ⟨t1, t2, t3, t4⟩ := ht
 refine ⟨k _ t1 _ _ hb, ⟨cs1, World.ownsRow.kept ha hg (.inr h1), ?_⟩, cs2, World.ownsRow.kept hc hg (.inr h2), ?_⟩
 ·exact (Rep.Cs.turn (fun cs x h => inp_keep (k _ t2) cs x h) hb1)
 ·exact (Rep.Cs.turn (fun cs x h => lin_keep (k _ t3) (k _ t4) cs x h) hd)
section
variable {M Bp : Nat} {w wz : World} {p : PrgP} {iv lv v' : Value}
theorem PrI.pushI (hbp : w.heap[Bp]? = some (.cells #[iv, lv] 25 (0, 0))) (h2 : RowG inpR M 79 w iv p.inputs) (h3 : RowG linR M 67 w lv p.lines) (hMB : M ≤ Bp) (hM : M ≤ w.heap.size) {x : InpP} (hrz : RowG inpR M 79 wz v' (p.inputs ++ [x])) (hgz : w.grownBy wz iv.ownBlock) :
  PrI M Bp (wz.setCell ⟨Bp, 0, none⟩ v') ⟨p.inputs ++ [x], p.lines⟩ ∧ Below M w (wz.setCell ⟨Bp, 0, none⟩ v') ∧ (∀ u, u ≠ 25 → u ≠ 79 → KeepTy u w (wz.setCell ⟨Bp, 0, none⟩ v')) ∧ KeepO Bp w (wz.setCell ⟨Bp, 0, none⟩ v') := by
 have k1 : ∀ u, u ≠ 79 → KeepTy u w wz := fun u hu => KeepTy.grown hgz (fun g e => by obtain ⟨cur, hc⟩ := ownBlock_ty h2 e; exact NotTy.of hc (Ne.symm hu))
 have hb := k1 _ (by decide) _ _ hbp
 have k2 : ∀ u, u ≠ 25 → KeepTy u wz (wz.setCell ⟨Bp, 0, none⟩ v') := fun u hu => KeepTy.setCell (p := ⟨Bp, 0, none⟩) (NotTy.of hb (Ne.symm hu)) _
 have kall : ∀ u, u ≠ 25 → u ≠ 79 → KeepTy u w (wz.setCell ⟨Bp, 0, none⟩ v') := fun u h1 h2 => (k1 u h2).trans (k2 u h1)
 exact ⟨⟨v', lv, set_block hb, hrz.same (inp_keep (k2 _ (by decide))) (k2 _ (by decide)), h3.same (lin_keep (kall _ (by decide) (by decide)) (kall _ (by decide) (by decide))) (kall _ (by decide) (by decide))⟩,
  ((Below.refl M w).grown hgz hM (fun g hg => (ownBlock_lt h2 hg).1)).setCell (p := ⟨Bp, 0, none⟩) hMB _, kall, fun g cur hne hg => block_other (p := ⟨Bp, 0, none⟩) (k1 _ (by decide) _ _ hg) (Ne.symm hne) _⟩
theorem PrI.pushL (hbp : w.heap[Bp]? = some (.cells #[iv, lv] 25 (0, 0))) (h2 : RowG inpR M 79 w iv p.inputs) (h3 : RowG linR M 67 w lv p.lines) (hMB : M ≤ Bp) (hM : M ≤ w.heap.size) {x : LinP} (hrz : RowG linR M 67 wz v' (p.lines ++ [x])) (hgz : w.grownBy wz lv.ownBlock) :
  PrI M Bp (wz.setCell ⟨Bp, 1, none⟩ v') ⟨p.inputs, p.lines ++ [x]⟩ ∧ Below M w (wz.setCell ⟨Bp, 1, none⟩ v') ∧ (∀ u, u ≠ 25 → u ≠ 67 → KeepTy u w (wz.setCell ⟨Bp, 1, none⟩ v')) ∧ KeepO Bp w (wz.setCell ⟨Bp, 1, none⟩ v') := by
 have k1 : ∀ u, u ≠ 67 → KeepTy u w wz := fun u hu => KeepTy.grown hgz (fun g e => by obtain ⟨cur, hc⟩ := ownBlock_ty h3 e; exact NotTy.of hc (Ne.symm hu))
 have hb := k1 _ (by decide) _ _ hbp
 have k2 : ∀ u, u ≠ 25 → KeepTy u wz (wz.setCell ⟨Bp, 1, none⟩ v') := fun u hu => KeepTy.setCell (p := ⟨Bp, 1, none⟩) (NotTy.of hb (Ne.symm hu)) _
 have kall : ∀ u, u ≠ 25 → u ≠ 67 → KeepTy u w (wz.setCell ⟨Bp, 1, none⟩ v') := fun u h1 h2 => (k1 u h2).trans (k2 u h1)
 exact ⟨⟨iv, v', set_block hb, h2.same (inp_keep (kall _ (by decide) (by decide))) (kall _ (by decide) (by decide)), hrz.same (lin_keep (k2 _ (by decide)) (k2 _ (by decide))) (k2 _ (by decide))⟩,
  ((Below.refl M w).grown hgz hM (fun g hg => (ownBlock_lt h3 hg).1)).setCell (p := ⟨Bp, 1, none⟩) hMB _, kall, fun g cur hne hg => block_other (p := ⟨Bp, 1, none⟩) (k1 _ (by decide) _ _ hg) (Ne.symm hne) _⟩
end
theorem results_into {tmps : Array Value} {w : World} (g : Nat) {cs : Array Value}
  (hp : tmps.getD 8 undef = .pointer (some ⟨g, 0, none⟩)) (hg : w.heap[g]? = some (.cells cs 28 (0, 0))) (hs : (Tryz.prog.info? 28).map (·.size) = some cs.size) :
  (results Tryz.f21 tmps).run Tryz.prog w = .ok (.agg cs) w := by
 have hp' : tmps[8]?.getD undef = .pointer (some ⟨g, 0, none⟩) := by simpa using hp
 have h : Tryz.f21.results = #[.cell 8 28] := by rfl
 simp [results, h, hp', asAddr, run_loadVar_row w g 28 28 cs (0, 0) _ hg Tryz.underlying28 rfl hs]
def Frame (w w' : World) : Prop := ∀ u, u ≠ 62 → u ≠ 25 → u ≠ 79 → u ≠ 67 → KeepTy u w w'
def IntE (M Bp : Nat) (w : World) (R : Option PrgP) (r : Ending) (w' : World) : Prop := Below M w w' ∧ Frame w w' ∧ KeepO Bp w w' ∧ ∃ fa fx : Int, r = .returned (.agg #[.int .i64 fa, .int .i64 fx]) ∧ match R with
 | some p => fa = 0 ∧ fx = 0 ∧ PrI M Bp w' p
 | none => (fx == 0) = false
theorem into_last {M Bp y8 : Nat} {w X : World} {u0 u1 : Value} (hb : Below M w X) (hf : Frame w X) (ho : KeepO Bp w X) (h8 : X.heap[y8]? = some (.cells #[u0, u1] 28 (0, 0))) (hw : w.heap.size ≤ y8) (hM : M ≤ y8) :
  ∀ Y, Y = ((X.setCell ⟨y8, 0, none⟩ u0).setCell ⟨y8, 1, none⟩ u1) → Y.heap[y8]? = some (.cells #[u0, u1] 28 (0, 0)) ∧ Below M w Y ∧ Frame w Y ∧ (∀ p, PrI M Bp X p → PrI M Bp Y p) ∧ KeepO Bp w Y := by
 have e2 : (((#[u0, u1] : Array Value).setIfInBounds 0 u0).setIfInBounds 1 u1) = #[u0, u1] := by simp
 have p0 := set_block (k := 0) (v := u0) h8
 have p1 := set_block (k := 1) (v := u1) p0
 rw [e2] at p1
 have k : ∀ u, u ≠ 28 → KeepTy u X ((X.setCell ⟨y8, 0, none⟩ u0).setCell ⟨y8, 1, none⟩ u1) := fun u hu => (KeepTy.setCell (p := ⟨y8, 0, none⟩) (NotTy.of h8 (Ne.symm hu)) _).trans (KeepTy.setCell (p := ⟨y8, 1, none⟩) (NotTy.of p0 (Ne.symm hu)) _)
 rintro _ rfl
 refine ⟨p1, (hb.setCell (p := ⟨y8, 0, none⟩) hM _).setCell (p := ⟨y8, 1, none⟩) hM _, fun u a1 a2 a3 a4 g cur hg => ?_, fun p hp => hp.keep (fun u hu => k u (by rcases hu with h | h | h | h | h | h <;> rw [h] <;> decide)), fun g cur hne' hg => k _ (by decide) _ _ (ho g cur hne' hg)⟩
 have hlt := block_lt hg
 have hne : y8 ≠ g := by omega
 exact block_other (p := ⟨y8, 1, none⟩) (block_other (p := ⟨y8, 0, none⟩) (hf u a1 a2 a3 a4 g cur hg) hne _) hne _
structure IS (W0 w : World) (L : Nat) (lv : Value) (toks : List (Tk × Nat)) (e : Int) (M Bp y8 : Nat) (W : World) (n : Nat) (p : PrgP) : Prop where
 line : LineI W0 L lv toks e W n
 kb : KB (fun g => g = L) w W
 b8 : W.heap[y8]? = some (.cells #[.int .i64 0, .int .i64 0] 28 (0, 0))
 pr : PrI M Bp W p
 h8 : w.heap.size ≤ y8
 hL : L < w.heap.size
 wl : LineI W0 L lv toks e w 0
section
variable {W0 w W W' : World} {L M Bp y8 n : Nat} {lv : Value} {toks : List (Tk × Nat)} {e : Int} {p : PrgP}
theorem IS.next (h : IS W0 w L lv toks e M Bp y8 W n p) (hb : Below W.heap.size W W') : IS W0 w L lv toks e M Bp y8 W' n p :=
 ⟨h.line.next hb, kbL_next h.kb hb, block_below h.b8 hb, h.pr.next hb, h.h8, h.hL, h.wl⟩
theorem IS.alloc (h : IS W0 w L lv toks e M Bp y8 W n p) (o : Obj) : IS W0 w L lv toks e M Bp y8 (W.alloc o) n p := h.next ((Below.refl _ _).alloc (Nat.le_refl _) o)
theorem IS.lineN (h : IS W0 w L lv toks e M Bp y8 W n p) {n' : Nat} (hk : KB (fun g => g = L) W W') (hl : LineI W0 L lv toks e W' n') : IS W0 w L lv toks e M Bp y8 W' n' p := by
 have k := keepTy_kbL h.line hk
 exact ⟨hl, h.kb.trans hk, k _ (by decide) _ _ h.b8, h.pr.keep (fun u hu => k u (by rcases hu with h | h | h | h | h | h <;> rw [h] <;> decide)), h.h8, h.hL, h.wl⟩
theorem IS.setN (h : IS W0 w L lv toks e M Bp y8 W n p) (m : Nat) (hm : m ≤ toks.length) : IS W0 w L lv toks e M Bp y8 (W.setCell ⟨L, 1, none⟩ (.int .i64 (m : Int))) m p :=
 h.lineN ((KB.refl (fun g => g = L) W).setCell (p := ⟨L, 1, none⟩) (fun _ => rfl) _) (h.line.setN m hm)
theorem IS.end (h : IS W0 w L lv toks e M Bp y8 W n p) (hM : M ≤ L) (u0 u1 : Value) : ∀ X : World, X = ((W.setCell ⟨y8, 0, none⟩ u0).setCell ⟨y8, 1, none⟩ u1) → X.heap[y8]? = some (.cells #[u0, u1] 28 (0, 0)) ∧ Below M w X ∧ Frame w X ∧ KeepO Bp w X := by
 have e2 : (((#[.int .i64 0, .int .i64 0] : Array Value).setIfInBounds 0 u0).setIfInBounds 1 u1) = #[u0, u1] := by simp
 have p0 := set_block (k := 0) (v := u0) h.b8
 have p1 := set_block (k := 1) (v := u1) p0
 rw [e2] at p1
 have h8 := h.h8
 have hL := h.hL
 have hn : ¬ y8 < w.heap.size := by omega
 have k0 := h.kb.setCell (p := ⟨y8, 0, none⟩) (fun hl => absurd hl hn) u0
 have k1 := k0.setCell (p := ⟨y8, 1, none⟩) (fun hl => absurd hl hn) u1
 rintro _ rfl
 exact ⟨p1, k1.below (by omega) (fun g hg => by subst hg; exact hM), fun u h1 _ _ _ => keepTy_kbL h.wl k1 u h1, fun g cur _ hg => keepTy_kbL h.wl k1 _ (by decide) _ _ hg⟩
end
def ExM (P : Option (List Itm)) (items : List Itm) (fa fx : Int) : Prop := match P with
 | some l => l = items ∧ fa = 0 ∧ fx = 0
 | none => (fx == 0) = false
set_option maxHeartbeats 16000000 in
theorem into_any {W0 w : World} {L M Bp : Nat} {lv : Value} {toks : List (Tk × Nat)} {e : Int} {p : PrgP} {t : Tk} (h : LineI W0 L lv toks e w 0) (htab : TabT W0) (ht : headT (restT toks 0) = t) (hlen : 0 < toks.length) (hp : PrI M Bp w p) (hML : M ≤ L) (hMB : M ≤ Bp) (n : Nat) (hn : n ≤ 64) (over : Bool) (hpl : p.inputs.length ≤ 64 ∧ p.lines.length ≤ 64) :
  Calls Tryz.prog 21 #[.pointer (some ⟨L, 0, none⟩), .pointer (some ⟨Bp, 0, none⟩), .int .i64 (n : Int), .bool over] w (IntE M Bp w (intoQ VV p n over t (restT toks 1))) := by
 obtain ⟨R, hR⟩ : ∃ R, intoQ VV p n over t (restT toks 1) = R := ⟨_, rfl⟩
 rw [hR]
 have hsm := h.small
 have hL := h.lt
 have hrc := hd_cons ht hlen
 have hshort := h.short ht
 have h1 := h.alloc (.cells #[.int .i64 0, .int .i64 0] 28)
 have hpk := peek_any h1
 rw [ht] at hpk
 obtain ⟨tk, tw, tn⟩ := t
 unfold tkV at hpk
 dsimp only at hpk
 have his : IS W0 w L lv toks e M Bp w.heap.size (w.alloc (.cells #[.int .i64 0, .int .i64 0] 28)) 0 p := ⟨h1, (KB.refl (fun g => g = L) w).alloc _, World.alloc_heap_new _ _, hp.next ((Below.refl _ _).alloc (Nat.le_refl _) _), Nat.le_refl _, hL, h⟩
 unfold intoQ at hR
 dsimp only at hR
 have HIS := Lib.hid his; have HPK := Lib.hid hpk; have HR := Lib.hid hR; have HTB := Lib.hid htab; have HRC := Lib.hid hrc
 clear h h1 hp his hpk hR htab ht hrc
 go_enter Tryz.func21, Tryz.ntmps21
 go_wp2_with fail
 refine HPK.out.mono ?_
 rintro _ wa ⟨⟨a9, rfl⟩, hba⟩
 have his := (HIS.out.next hba).alloc (.cells #[.int .i64 tk, .int .i64 a9, .string (str tw), .int .i64 tn] 39)
 have hy9 := World.alloc_heap_new wa (.cells #[.int .i64 tk, .int .i64 a9, .string (str tw), .int .i64 tn] 39)
 have H9 := Lib.hid (And.intro his hy9)
 have hL9 : L ≠ wa.heap.size := by have := (HIS.out.next hba).line.lt; omega
 clear his hy9 hba HIS HPK
 dsimp only
 go_upto_region 2 with fail
 refine gen_worldA (fun W => IS W0 w L lv toks e M Bp w.heap.size W 0 p ∧ W.heap[wa.heap.size]? = _) H9.out ?_
 clear H9
 generalize wa.heap.size = y9 at hL9 ⊢
 obtain ⟨y8, hy8⟩ : ∃ y, w.heap.size = y := ⟨_, rfl⟩
 rw [hy8]
 clear wa
 rintro W ⟨his, hy9⟩
 have c90 := cell_of_row W y9 0 _ _ _ hy9
 have c92 := cell_of_row W y9 2 _ _ _ hy9
 obtain ⟨bi, hbi⟩ : ∃ b, isWord ⟨tk, tw, tn⟩ kwIn = b := ⟨_, rfl⟩
 obtain ⟨bo, hbo⟩ : ∃ b, isWord ⟨tk, tw, tn⟩ kwOut = b := ⟨_, rfl⟩
 have hR := HR.out
 rw [hbi, hbo] at hR
 have HIS := Lib.hid his; have HY9 := Lib.hid hy9; have HR := Lib.hid hR; have HBI := Lib.hid hbi; have HBO := Lib.hid hbo
 clear his hy9 hR hbi hbo
 go_cut [10, 11] from 15 to 32 (fun s10 s11 wx => s10 = .bool bi ∧ s11 = .bool bo ∧ ∃ k, wx = W.drewN k)
 case first =>
  have hbi : bi = ((tk == 1) && (tw == [105, 110])) := by rw [← HBI.out, Bool.beq_eq_decide_eq tw]; rfl
  have hbo : bo = ((tk == 1) && (tw == [111, 117, 116])) := by rw [← HBO.out, Bool.beq_eq_decide_eq tw]; rfl
  have HI := Lib.hid hbi; have HO := Lib.hid hbo
  clear hbi hbo
  cases g1 : (tk == 1) <;> cases g2 : (tw == [105, 110]) <;> cases g3 : (tw == [111, 117, 116])
  all_goals
   go_quiet (fail)
   go_wp2_with fail
   go_meet
   exact ⟨by rw [HI.out, g1, g2]; rfl, by rw [HO.out, g1, g3]; rfl, _, rfl⟩
 case rest =>
  obtain ⟨rfl, rfl, k, rfl⟩ := hcut
  go_upto_region 3 with fail
  refine gen_worldA (fun W' => IS W0 w L lv toks e M Bp y8 W' 0 p ∧ W'.heap[y9]? = _) ⟨HIS.out.next (Below.drewN W k), HY9.out⟩ ?_
  clear HIS HY9 c90 c92
  rintro W ⟨his, hy9⟩
  obtain ⟨la, lc, rfl⟩ := his.line.form
  have l0 := his.line.cells.1
  have lm := his.line.cells.2.1
  have fm := frozen_of_row W L 1 _ _ his.line.box
  have c90 := cell_of_row W y9 0 _ _ _ hy9
  have c91 := cell_of_row W y9 1 _ _ _ hy9
  have c92 := cell_of_row W y9 2 _ _ _ hy9
  have hLy8 : L < y8 := by rw [← hy8]; exact his.hL
  have HIS := Lib.hid his; have HY9 := Lib.hid hy9
  clear his hy9
  have hR := HR.out
  have hrl : (restT toks 1).length + 1 = toks.length := by rw [rest_len]; omega
  rw [hrl] at hR
  clear HR hrl
  by_cases h64 : n = 64
  ·rw [if_pos h64] at hR
   have hRn : R = none := hR.symm
   have q64 : ((n : Int) == 64) = true := by rw [h64]; rfl
   clear hR h64
   go_wp2_with fail
   refine (fault_any HIS.out.line 45).mono ?_
   rintro _ wf ⟨⟨fa, rfl⟩, hbf⟩
   have his := HIS.out.next hbf
   have c80 := cell_of_row wf y8 0 _ _ _ his.b8
   have c81 := cell_of_row wf y8 1 _ _ _ his.b8
   have f80 := frozen_of_row wf y8 0 _ _ his.b8
   have f81 := frozen_of_row wf y8 1 _ _ his.b8
   have HIS2 := Lib.hid his
   clear his hbf
   dsimp only
   go_wp2_with fail
   obtain ⟨z1, z2, z3, zo⟩ := HIS2.out.end hML _ _ _ rfl
   exact bodyPost_ret (results_into y8 rfl z1 (by kernel_rfl)) rfl ⟨z2, z3, zo, _, _, rfl, by first | rfl | (rw [hRn]; rfl)⟩
   all_goals skip
  rw [if_neg h64] at hR
  have q64 : ((n : Int) == 64) = false := by rw [beq_eq_false_iff_ne]; omega
  by_cases h256 : 256 < toks.length
  ·rw [if_pos h256] at hR
   have hRn : R = none := hR.symm
   have q256 : decide ((256 : Int) < (toks.length : Int)) = true := decide_eq_true (by omega)
   clear hR
   go_upto_region 7 with fail
   refine gen_worldA (fun W => IS W0 w L (.slice la toks.length lc) toks e M Bp y8 W 256 p) (HIS.out.setN 256 (by omega)) ?_
   clear HIS HY9 c90 c91 c92 l0 lm fm
   rintro W his
   have HIS := Lib.hid his
   clear his
   go_wp2_with fail
   refine (fault_any HIS.out.line 45).mono ?_
   rintro _ wf ⟨⟨fa, rfl⟩, hbf⟩
   have his := HIS.out.next hbf
   have c80 := cell_of_row wf y8 0 _ _ _ his.b8
   have c81 := cell_of_row wf y8 1 _ _ _ his.b8
   have f80 := frozen_of_row wf y8 0 _ _ his.b8
   have f81 := frozen_of_row wf y8 1 _ _ his.b8
   have HIS2 := Lib.hid his
   clear his hbf
   dsimp only
   go_wp2_with fail
   obtain ⟨z1, z2, z3, zo⟩ := HIS2.out.end hML _ _ _ rfl
   exact bodyPost_ret (results_into y8 rfl z1 (by kernel_rfl)) rfl ⟨z2, z3, zo, _, _, rfl, by first | rfl | (rw [hRn]; rfl)⟩
   all_goals skip
  rw [if_neg h256] at hR
  have q256 : decide ((256 : Int) < (toks.length : Int)) = false := decide_eq_false (by omega)
  obtain ⟨iv, jv, hbp, hiv, hjv⟩ := HIS.out.pr
  have cb0 := cell_of_row W Bp 0 _ _ _ hbp
  have cb1 := cell_of_row W Bp 1 _ _ _ hbp
  obtain ⟨ia, ic, rfl⟩ := hiv.form
  obtain ⟨ja, jc, rfl⟩ := hjv.form
  have HPX := Lib.hid (show PrX M Bp W p _ _ from ⟨hbp, hiv, hjv⟩)
  clear hbp hiv hjv h64 h256
  obtain ⟨hpi, hpj⟩ := hpl
  cases over with
  | true =>
   rw [if_pos (.inl rfl)] at hR
   have hRn : R = none := hR.symm
   clear hR
   go_wp2_with fail
   refine (fault_any HIS.out.line 40).mono ?_
   rintro _ wf ⟨⟨fa, rfl⟩, hbf⟩
   have his := HIS.out.next hbf
   have c80 := cell_of_row wf y8 0 _ _ _ his.b8
   have c81 := cell_of_row wf y8 1 _ _ _ his.b8
   have f80 := frozen_of_row wf y8 0 _ _ his.b8
   have f81 := frozen_of_row wf y8 1 _ _ his.b8
   have HIS2 := Lib.hid his
   clear his hbf
   dsimp only
   go_wp2_with fail
   obtain ⟨z1, z2, z3, zo⟩ := HIS2.out.end hML _ _ _ rfl
   exact bodyPost_ret (results_into y8 rfl z1 (by kernel_rfl)) rfl ⟨z2, z3, zo, _, _, rfl, by first | rfl | (rw [hRn]; rfl)⟩
   all_goals skip
  | false =>
   cases bi with
   | true =>
    by_cases hl : p.lines = []
    ·rw [if_neg (by rintro (h | ⟨_, h⟩); cases h; exact h hl), if_pos rfl] at hR
     have hl0 : p.lines.length = 0 := by rw [hl]; rfl
     rw [hl0] at cb1
     have HR := Lib.hid hR
     clear hR hl
     -- <IN
     have HWL := Lib.hid HIS.out.wl
     have his1 := HIS.out.alloc (.cells #[.string ⟨#[]⟩, .int .i64 0, .slice none 0 0] 79)
     have hy12 := World.alloc_heap_new W (.cells #[.string ⟨#[]⟩, .int .i64 0, .slice none 0 0] 79)
     have hin := input_any his1.line HTB.out (by omega)
     obtain ⟨y12, hW12⟩ : ∃ y, W.heap.size = y := ⟨_, rfl⟩
     rw [hW12] at hy12
     have hb812 : y8 < y12 := by rw [← hW12]; exact block_lt HIS.out.b8
     obtain ⟨P, hP⟩ : ∃ P, inputP VV (restT toks 1) = P := ⟨_, rfl⟩
     rw [hP] at hin
     have hR2 := HR.out
     rw [hP] at hR2
     have HIN := Lib.hid hin; have HI1 := Lib.hid his1; have HY12 := Lib.hid hy12; have HR2 := Lib.hid hR2
     clear hin his1 hy12 hR2 HR hP HRC
     go_wp2_with fail
     refine HIN.out.mono ?_
     rintro _ wb ⟨hkb, x, a, v, fa, fx, n', rfl, hli, hrow, hm⟩
     have his2 := HI1.out.lineN hkb hli
     have hy12 := keepTy_kbL HI1.out.line hkb 79 (by decide) _ _ HY12.out
     obtain ⟨va, vc, rfl⟩ := hrow.form
     have HKL := Lib.hid (fun u hu => keepTy_kbL HI1.out.line hkb u hu)
     have HI2 := Lib.hid his2; have H12 := Lib.hid hy12; have HRW := Lib.hid hrow; have HM := Lib.hid hm
     have H8 := Lib.hid his2.b8
     have c8 := cell_of_row wb y8 0 _ _ _ his2.b8
     clear his2 hy12 hkb hli hrow hm HIN HI1 HY12 HIS HY9 c90 c91 c92 cb0 cb1 l0 lm fm
     dsimp only
     have hio : ∀ y, y12 ≤ y → (Value.slice ia p.inputs.length ic).ownBlock ≠ some y := fun y hy e => by have := (ownBlock_lt HPX.out.2.1 e).2; omega
     have hjo : ∀ y, y12 ≤ y → (Value.slice ja p.lines.length jc).ownBlock ≠ some y := fun y hy e => by have := (ownBlock_lt HPX.out.2.2 e).2; omega
     have hpx2 := PrX.keep (HPX.out.keep (fun u _ => KeepTy.below ((Below.refl _ _).alloc (Nat.le_refl _) (.cells #[.string ⟨#[]⟩, .int .i64 0, .slice none 0 0] 79)))) (fun u hu => HKL.out u (by rcases hu with h | h | h | h | h | h <;> rw [h] <;> decide))
     have HPX2 := Lib.hid hpx2; have HIO := Lib.hid hio; have HJO := Lib.hid hjo
     clear hpx2 hio hjo HPX HKL
     go_upto_region 13 with (first
      | ((with_reducible show wpList _ _ _ ({ dst := none, op := Op.store 79 (.tmp 12) (.tmp _), type := _, pos := _, after := _, guard := _ } :: _) _ _); (refine wpList_storeW rfl 79 _ _ rfl y12 rfl _ _ rfl _ H12.out (by kernel_rfl) (by rfl) (by rfl) ?_); intro w3 hr3 hg3)
      | (have H8b := Lib.hid (block_grown H8.out hg3 (by intro e; cases e; omega)); ((with_reducible show wpList _ _ _ ({ dst := none, op := Op.store 28 (.tmp 8) (.tmp _), type := _, pos := _, after := _, guard := _ } :: _) _ _); (refine wpList_storeW rfl 28 _ _ rfl y8 rfl _ _ rfl _ H8b.out (by kernel_rfl) (by rfl) (by rfl) ?_); intro w4 hr4 hg4)))
     have hx3 := HPX2.out.other hg3 H12.out (by decide) (HIO.out _ (Nat.le_refl _)) (HJO.out _ (Nat.le_refl _))
     have hk4 : ∀ u, u ≠ 28 → KeepTy u _ _ := fun u hu => KeepTy.grown hg4 (fun g e => by cases e; exact NotTy.of H8b.out (Ne.symm hu))
     have hx4 := hx3.keep (fun u hu => hk4 u (by rcases hu with h | h | h | h | h | h <;> rw [h] <;> decide))
     have h124 := hk4 _ (by decide) _ _ hr3
     have hrw4 := (HRW.out.same (w' := w3) (fun _ _ h => h) (KeepTy.grown hg3 (fun g e => by cases e; exact NotTy.of H12.out (by decide)))).same (w' := w4) (fun _ _ h => h) (hk4 _ (by decide))
     have hkb4 := (HI2.out.kb.grown hg3 (fun g e hl => by cases e; omega)).grown hg4 (fun g e hl => by cases e; omega)
     have HZ := Lib.hid (And.intro hkb4 (And.intro hx4 (And.intro h124 (And.intro hr4 (hrw4.mono (Nat.zero_le _))))))
     clear hx3 hk4 hx4 h124 hrw4 hkb4 hr3 hr4 hg3 hg4 HRW HPX2 HJO H12 H8 H8b c8 HI2
     dsimp only [Act.put]
     refine gen_worldA (fun W4 => KB (fun g => g = L) w W4 ∧ PrX M Bp W4 p (.slice ia p.inputs.length ic) (.slice ja p.lines.length jc) ∧ W4.heap[y12]? = some (.cells #[.string (str x.name), .int .i64 a, .slice va x.sides.length vc] 79 (0, 0)) ∧ W4.heap[y8]? = some (.cells #[.int .i64 fa, .int .i64 fx] 28 (0, 0)) ∧ RowG sidR 0 81 W4 (.slice va x.sides.length vc) x.sides) HZ.out ?_
     clear HZ
     rintro W4 ⟨hkb, hpx, h12, h8, hrw⟩
     have cb0 := cell_of_row W4 Bp 0 _ _ _ hpx.1
     have k0 := cell_of_row W4 y12 0 _ _ _ h12
     have k1 := cell_of_row W4 y12 1 _ _ _ h12
     have k2 := cell_of_row W4 y12 2 _ _ _ h12
     have HX := Lib.hid (And.intro hkb (And.intro hpx (And.intro h12 (And.intro h8 hrw))))
     clear hkb hpx h12 h8 hrw
     refine wp_region_Z (S := fun W' => (W'.cell? ⟨Bp, 0, none⟩ = some (.slice ia p.inputs.length ic) ∧ W'.cell? ⟨y12, 0, none⟩ = some (.string (str x.name))) ∧ W'.cell? ⟨y12, 1, none⟩ = some (.int .i64 a) ∧ W'.cell? ⟨y12, 2, none⟩ = some (.slice va x.sides.length vc)) (z := 10) (by kernel_rfl) ?_
     have hSS : (fun W' : World => (W'.cell? ⟨Bp, 0, none⟩ = some (.slice ia p.inputs.length ic) ∧ W'.cell? ⟨y12, 0, none⟩ = some (.string (str x.name))) ∧ W'.cell? ⟨y12, 1, none⟩ = some (.int .i64 a) ∧ W'.cell? ⟨y12, 2, none⟩ = some (.slice va x.sides.length vc)) W4.drew := ⟨⟨cb0, k0⟩, k1, k2⟩
     clear cb0 k0 k1 k2
     refine wpAnyZ_take (i := 0) (v := ?_) rfl (by kernel_rfl) (by kernel_rfl) (by kernel_rfl) (fun _ _ _ h => h) (by kernel_rfl) (Or.inl ⟨by rfl, ?_⟩) (by assumption) ?_
     rotate_left
     ·intro w' hSw
      try dsimp only at hSw
      try obtain ⟨hSw, hSw2⟩ := hSw
      go_simp
      try with_reducible rfl
     show wpAnyZ _ _ _ _ _ _ _ _ (Act.put _ (some 72) _) _
     simp only [Act.put, List.setIfInBounds_toArray, List.set_cons_zero, List.set_cons_succ]
     refine wpAnyZ_take (i := 1) (v := ?_) rfl (by kernel_rfl) (by kernel_rfl) (by kernel_rfl) (fun _ _ _ h => h) (by kernel_rfl) (Or.inl ⟨by rfl, ?_⟩) (by assumption) ?_
     rotate_left
     ·intro w' hSw
      try dsimp only at hSw
      try obtain ⟨hSw, hSw2⟩ := hSw
      go_simp
      try with_reducible rfl
     show wpAnyZ _ _ _ _ _ _ _ _ (Act.put _ (some 73) _) _
     simp only [Act.put, List.setIfInBounds_toArray, List.set_cons_zero, List.set_cons_succ]
     refine wpAnyZ_take (i := 2) (v := ?_) rfl (by kernel_rfl) (by kernel_rfl) (by kernel_rfl) (fun _ _ _ h => h) (by kernel_rfl) (Or.inl ⟨by rfl, ?_⟩) (by assumption) ?_
     rotate_left
     ·intro w' hSw
      try dsimp only at hSw
      try obtain ⟨hSw, hSw2⟩ := hSw
      go_simp
      try with_reducible rfl
     show wpAnyZ _ _ _ _ _ _ _ _ (Act.put _ (some 74) _) _
     simp only [Act.put, List.setIfInBounds_toArray, List.set_cons_zero, List.set_cons_succ]
     refine wpAnyZ_take (i := 3) (v := ?_) rfl (by kernel_rfl) (by kernel_rfl) (by kernel_rfl) (fun _ _ _ h => h) (by kernel_rfl) (Or.inl ⟨by rfl, ?_⟩) (by assumption) ?_
     rotate_left
     ·intro w' hSw
      try dsimp only at hSw
      try obtain ⟨hSw, hSw2⟩ := hSw
      go_simp
      try with_reducible rfl
     show wpAnyZ _ _ _ _ _ _ _ _ (Act.put _ (some 75) _) _
     simp only [Act.put, List.setIfInBounds_toArray, List.set_cons_zero, List.set_cons_succ]
     refine wpAnyZ_take (i := 4) (v := ?_) rfl (by kernel_rfl) (by kernel_rfl) (by kernel_rfl) (fun _ _ _ h => h) (by kernel_rfl) (Or.inl ⟨by rfl, ?_⟩) (by assumption) ?_
     rotate_left
     ·intro w' hSw
      try dsimp only at hSw
      try obtain ⟨hSw, hSw2⟩ := hSw
      go_simp
      try with_reducible rfl
     show wpAnyZ _ _ _ _ _ _ _ _ (Act.put _ (some 76) _) _
     simp only [Act.put, List.setIfInBounds_toArray, List.set_cons_zero, List.set_cons_succ]
     refine wpAnyZ_take (i := 5) (v := ?_) rfl (by kernel_rfl) (by kernel_rfl) (by kernel_rfl) (fun _ _ _ h => h) (by kernel_rfl) (Or.inl ⟨by rfl, ?_⟩) (by assumption) ?_
     rotate_left
     ·intro w' hSw
      try dsimp only at hSw
      try obtain ⟨hSw, hSw2⟩ := hSw
      go_simp
      try with_reducible rfl
     show wpAnyZ _ _ _ _ _ _ _ _ (Act.put _ (some 77) _) _
     simp only [Act.put, List.setIfInBounds_toArray, List.set_cons_zero, List.set_cons_succ]
     clear hSS
     obtain ⟨hkb, hpx, h12, h8, hrw⟩ := HX.out
     have hkb := hkb.drew
     have hd : Below W4.heap.size W4 W4.drew := (Below.refl _ _).drew
     have hpx := hpx.keep (fun u _ => KeepTy.below hd)
     have h12 := block_below h12 hd
     have h8 := block_below h8 hd
     have hrw := hrw.next hd
     have hsz : y12 < W4.drew.heap.size := block_lt h12
     clear HX hd
     generalize W4.drew = W5 at hkb hpx h12 h8 hrw hsz ⊢
     have HX := Lib.hid (And.intro hkb (And.intro hpx (And.intro h12 (And.intro h8 hrw))))
     clear hkb hpx h12 h8 hrw
     refine wpAnyZ_one (i := 6) (by kernel_rfl) rfl rfl (fun K hK => ?_)
     go_simp
     obtain ⟨hkb, hpx, h12, h8, hrw⟩ := HX.out
     have hd : Below W5.heap.size W5 (W5.alloc (.cells #[.string (str x.name), .int .i64 a, .slice va x.sides.length vc] 79)) := (Below.refl _ _).alloc (Nat.le_refl _) _
     have hkb := hkb.alloc (.cells #[.string (str x.name), .int .i64 a, .slice va x.sides.length vc] 79)
     have hpx := hpx.keep (fun u _ => KeepTy.below hd)
     have h12 := block_below h12 hd
     have h8 := block_below h8 hd
     have hrw := hrw.next hd
     have hGa := World.alloc_heap_new W5 (.cells #[.string (str x.name), .int .i64 a, .slice va x.sides.length vc] 79)
     refine hK.out _ _ (.inr ⟨⟨cell_of_row _ Bp 0 _ _ _ hpx.1, cell_of_row _ y12 0 _ _ _ h12⟩, cell_of_row _ y12 1 _ _ _ h12, cell_of_row _ y12 2 _ _ _ h12⟩) ?_
     clear hK HX hd
     obtain ⟨g5, hg5⟩ : ∃ g, W5.heap.size = g := ⟨_, rfl⟩
     rw [hg5] at hGa ⊢
     have hMw : M ≤ (W5.alloc (.cells #[.string (str x.name), .int .i64 a, .slice va x.sides.length vc] 79)).heap.size := by simp; omega
     generalize W5.alloc (.cells #[.string (str x.name), .int .i64 a, .slice va x.sides.length vc] 79) = W6 at hkb hpx h12 h8 hrw hGa hMw ⊢
     refine wpAnyZ_one (i := 7) (by kernel_rfl) rfl rfl (fun K hK => ?_)
     refine wp_pushG (.tmp 76) (.tmp 78) 22 79 rfl (.agg #[.string ⟨#[]⟩, .int .i64 0, .slice none 0 0]) 48 Tryz.underlying22 (by kernel_rfl) (by rfl) (show 0 < 3 by decide) M M g5 (keep_inp _) _ p.inputs x _ rfl hpx.2.1 rfl hGa ⟨a, _, rfl, hrw⟩ (by unfold maxLen; omega) (by omega) (Nat.le_refl _) hMw ?_
     intro v' wz hrz hbz hgz hkz
     have hpu := PrI.pushI hpx.1 hpx.2.1 hpx.2.2 hMB hMw hrz hgz
     have hbpz := hkz _ (by decide) _ _ hpx.1
     have h12z := block_grown h12 hgz (HIO.out _ (Nat.le_refl _))
     have h8z := hkz _ (by decide) _ _ h8
     obtain ⟨za, zc, hz⟩ := hrz.form
     rw [List.length_append, List.length_singleton] at hz
     subst hz
     refine hK.out _ _ (.inr ⟨⟨cell_of_row _ Bp 0 _ _ _ hbpz, cell_of_row _ y12 0 _ _ _ h12z⟩, cell_of_row _ y12 1 _ _ _ h12z, cell_of_row _ y12 2 _ _ _ h12z⟩) ?_
     clear hK
     refine wpAnyZ_one (i := 8) (by kernel_rfl) rfl rfl (fun K hK => ?_)
     go_simp
     refine hK.out _ _ (.inr ⟨⟨cell_of_row _ Bp 0 _ _ _ hbpz, cell_of_row _ y12 0 _ _ _ h12z⟩, cell_of_row _ y12 1 _ _ _ h12z, cell_of_row _ y12 2 _ _ _ h12z⟩) ?_
     clear hK
     refine wpAnyZ_one (i := 9) (by kernel_rfl) rfl rfl (fun K hK => ?_)
     go_simp
     refine hK.out _ _ (.inr ⟨⟨cell_of_row _ Bp 0 _ _ _ hbpz, cell_of_row _ y12 0 _ _ _ h12z⟩, cell_of_row _ y12 1 _ _ _ h12z, cell_of_row _ y12 2 _ _ _ h12z⟩) ?_
     clear hK
     have cbz := cell_of_row wz Bp 0 _ _ _ hbpz
     have fbz := frozen_of_row wz Bp 0 _ _ hbpz
     have hbel : Below M w _ := (hkb.below (by omega) (fun g hg => by subst hg; exact hML)).trans hpu.2.1
     have hfr : Frame w _ := fun u a1 a2 a3 a4 => (keepTy_kbL HWL.out hkb u a1).trans (hpu.2.2.1 u a2 a3)
     have ho : KeepO Bp w _ := fun g cur hne hg => hpu.2.2.2 g cur hne (keepTy_kbL HWL.out hkb _ (by decide) _ _ hg)
     have h8x := hpu.2.2.1 _ (by decide) (by decide) _ _ h8
     have HEND := Lib.hid (And.intro hbel (And.intro hfr (And.intro h8x (And.intro hpu.1 ho))))
     clear hkb hpx h12 h8 hrw hGa hrz hbz hgz hkz hpu hbpz h12z h8z hbel hfr h8x ho
     refine wpAnyZ_one (i := 10) (by kernel_rfl) rfl rfl (fun K hK => ?_)
     go_simp
     refine hK.out _ _ (.inl (by omega)) ?_
     clear hK cbz fbz
     refine wpAnyZ_done (by kernel_rfl) ?_ _
     go_upto_region 14 with fail
     refine gen_worldA (fun X => Below M w X ∧ Frame w X ∧ X.heap[y8]? = some (.cells #[.int .i64 fa, .int .i64 fx] 28 (0, 0)) ∧ PrI M Bp X ⟨p.inputs ++ [x], p.lines⟩ ∧ KeepO Bp w X) HEND.out ?_
     clear HEND
     rintro X ⟨hb, hf, h8, hpr, ho⟩
     have c80 := cell_of_row X y8 0 _ _ _ h8
     have c81 := cell_of_row X y8 1 _ _ _ h8
     have f80 := frozen_of_row X y8 0 _ _ h8
     have f81 := frozen_of_row X y8 1 _ _ h8
     have HX := Lib.hid (And.intro hb (And.intro hf (And.intro h8 (And.intro hpr ho))))
     clear hb hf h8 hpr ho
     go_wp2_with fail
     obtain ⟨z1, z2, z3, z4, zo⟩ := into_last (Bp := Bp) HX.out.1 HX.out.2.1 HX.out.2.2.2.2 HX.out.2.2.1 (by omega) (by omega) _ rfl
     refine bodyPost_ret (results_into y8 rfl z1 (by kernel_rfl)) rfl ⟨z2, z3, zo, _, _, rfl, ?_⟩
     rw [← HR2.out]
     have hm := HM.out
     cases P with
     | none => exact hm
     | some y =>
      obtain ⟨rfl, h1, h2⟩ := hm
      exact ⟨h1, h2, z4 _ HX.out.2.2.2.1⟩
     -- IN>
    ·rw [if_pos (.inr ⟨rfl, hl⟩)] at hR
     have hRn : R = none := hR.symm
     obtain ⟨pn, hpn⟩ : ∃ pn, p.lines.length = pn := ⟨_, rfl⟩
     have hpn0 : 0 < pn := by rw [← hpn]; exact List.length_pos_iff.2 hl
     rw [hpn] at cb1
     have ql : decide ((0 : Int) < (pn : Int)) = true := decide_eq_true (by omega)
     clear hR hl hpn hpj
     go_wp2_with fail
     refine (fault_any HIS.out.line 40).mono ?_
     rintro _ wf ⟨⟨fa, rfl⟩, hbf⟩
     have his := HIS.out.next hbf
     have c80 := cell_of_row wf y8 0 _ _ _ his.b8
     have c81 := cell_of_row wf y8 1 _ _ _ his.b8
     have f80 := frozen_of_row wf y8 0 _ _ his.b8
     have f81 := frozen_of_row wf y8 1 _ _ his.b8
     have HIS2 := Lib.hid his
     clear his hbf
     dsimp only
     go_wp2_with fail
     obtain ⟨z1, z2, z3, zo⟩ := HIS2.out.end hML _ _ _ rfl
     exact bodyPost_ret (results_into y8 rfl z1 (by kernel_rfl)) rfl ⟨z2, z3, zo, _, _, rfl, by first | rfl | (rw [hRn]; rfl)⟩
     all_goals skip
   | false =>
    rw [if_neg (by rintro (h | ⟨h, _⟩) <;> cases h), if_neg (by decide)] at hR
    have HR := Lib.hid hR
    clear hR
    have hio : ∀ y, W.heap.size ≤ y → (Value.slice ia p.inputs.length ic).ownBlock ≠ some y := fun y hy e => by have := (ownBlock_lt HPX.out.2.1 e).2; omega
    have hjo : ∀ y, W.heap.size ≤ y → (Value.slice ja p.lines.length jc).ownBlock ≠ some y := fun y hy e => by have := (ownBlock_lt HPX.out.2.2 e).2; omega
    have HIO := Lib.hid hio; have HJO := Lib.hid hjo; have HWL := Lib.hid HIS.out.wl
    clear hio hjo
    generalize decide ((0 : Int) < (p.lines.length : Int)) = ql at *
    cases bo with
    | true =>
     rw [if_neg (by rintro ⟨h, _⟩; cases h), if_pos rfl] at HR
     -- <OA
     have his1 := (HIS.out.setN 1 (by omega)).alloc (.cells #[.string ⟨#[]⟩, .int .i64 a9, .slice none 0 0] 67)
     have h13 := World.alloc_heap_new (W.setCell ⟨L, 1, none⟩ (.int .i64 (1 : Nat))) (.cells #[.string ⟨#[]⟩, .int .i64 a9, .slice none 0 0] 67)
     have hpx1 := (HPX.out.keep (fun u hu => keepTy_kbL HIS.out.line ((KB.refl (fun g => g = L) W).setCell (p := ⟨L, 1, none⟩) (fun _ => rfl) (.int .i64 (1 : Nat))) u (by rcases hu with h | h | h | h | h | h <;> rw [h] <;> decide))).keep (fun u _ => KeepTy.below ((Below.refl _ _).alloc (Nat.le_refl _) (.cells #[.string ⟨#[]⟩, .int .i64 a9, .slice none 0 0] 67)))
     rw [show (W.setCell ⟨L, 1, none⟩ (.int .i64 (1 : Nat))).heap.size = W.heap.size by simp] at h13
     have h8l := block_lt HIS.out.b8
     have hLW := block_lt HIS.out.line.box
     have H1 := Lib.hid (And.intro his1 (And.intro h13 hpx1))
     clear his1 h13 hpx1 HIS HPX
     go_upto_region 25 with fail
     refine gen_worldA (fun W1 => IS W0 w L (.slice la toks.length lc) toks e M Bp y8 W1 1 p ∧ W1.heap[W.heap.size]? = some (.cells #[.string (str []), .int .i64 a9, .slice none 0 0] 67 (0, 0)) ∧ PrX M Bp W1 p (.slice ia p.inputs.length ic) (.slice ja p.lines.length jc)) H1.out ?_
     clear H1 cb0 cb1 c90 c91 c92 l0 lm fm HY9 hLW
     generalize W.heap.size = y13 at h8l HIO HJO ⊢
     clear W
     rintro W ⟨his, h13, hpx⟩
     obtain ⟨a13, ha13⟩ : ∃ a, a9 = a := ⟨_, rfl⟩
     rw [ha13] at h13
     have HIS := Lib.hid his; have H13 := Lib.hid h13; have HPX := Lib.hid hpx
     clear his h13 hpx
     have hex := expr_any HIS.out.line HTB.out
     obtain ⟨P, hP⟩ : ∃ P, exprP VV (restT toks 1) = P := ⟨_, rfl⟩
     rw [hP] at hex
     have hR2 := HR.out
     rw [hP] at hR2
     have HEX := Lib.hid hex; have HR2 := Lib.hid hR2
     clear hex hR2 HR hP
     go_wp2_with fail
     refine HEX.out.mono ?_
     rintro _ wb ⟨hkb, v, fa, fx, n', rfl, hli, hm⟩
     have his2 := HIS.out.lineN hkb hli
     have hk := fun u hu => keepTy_kbL HIS.out.line hkb u hu
     have h13 := hk _ (by decide) _ _ H13.out
     have hpx2 := HPX.out.keep (fun u hu => hk u (by rcases hu with h | h | h | h | h | h <;> rw [h] <;> decide))
     obtain ⟨items, hrow, hm2⟩ : ∃ items, RowG itmR 0 121 wb v items ∧ ExM P items fa fx := by
      cases P with
      | none => exact ⟨[], hm.2 ▸ RowG.nil _ _ _ _, hm.1⟩
      | some l => exact ⟨l, hm.2.2.mono (Nat.zero_le _), rfl, hm.1, hm.2.1⟩
     obtain ⟨va, vc, rfl⟩ := hrow.form
     have HI2 := Lib.hid his2; have HPX2 := Lib.hid hpx2; have HM := Lib.hid hm2
     have c132 := cell_of_row wb y13 2 _ _ _ h13
     have f132 := frozen_of_row wb y13 2 _ _ h13
     have hk3 : ∀ u, u ≠ 67 → KeepTy u wb (wb.setCell ⟨y13, 2, none⟩ (.slice va items.length vc)) := fun u hu => KeepTy.setCell (p := ⟨y13, 2, none⟩) (NotTy.of h13 (Ne.symm hu)) _
     have hg3 : wb.grownBy (wb.setCell ⟨y13, 2, none⟩ (.slice va items.length vc)) (some y13) := ⟨rfl, rfl, rfl, by simp, fun k _ hne => Below.heap_setCell _ _ _ _ (fun e => hne (by rw [e]))⟩
     have h133 := set_block (k := 2) (v := .slice va items.length vc) h13
     have hx3 := hpx2.other hg3 h13 (by decide) (HIO.out _ (Nat.le_refl _)) (HJO.out _ (Nat.le_refl _))
     have hrw3 := hrow.same (w' := wb.setCell ⟨y13, 2, none⟩ (.slice va items.length vc)) (fun cs y ⟨a, v, e, h⟩ => ⟨a, v, e, h.keepTy (hk3 _ (by decide))⟩) (hk3 _ (by decide))
     have hkb3 := his2.kb.setCell (p := ⟨y13, 2, none⟩) (fun hl => absurd hl (show ¬ y13 < w.heap.size by omega)) (.slice va items.length vc)
     have H83 := Lib.hid (hk3 28 (by decide) _ _ his2.b8)
     have H3 := Lib.hid (And.intro hx3 (And.intro hrw3 (And.intro hkb3 h133)))
     clear his2 hk h13 hpx2 hrow hm hm2 hkb hli hk3 hg3 h133 hx3 hrw3 hkb3 HIS H13 HPX HEX
     dsimp only
     go_upto_region 26 with ((with_reducible show wpList _ _ _ ({ dst := none, op := Op.store 28 (.tmp 8) (.tmp _), type := _, pos := _, after := _, guard := _ } :: _) _ _); (refine wpList_storeW rfl 28 _ _ rfl y8 rfl _ _ rfl _ H83.out (by kernel_rfl) (by rfl) (by rfl) ?_); intro w4 hr4 hg4)
     obtain ⟨hx3, hrw3, hkb3, h133⟩ := H3.out
     have hk4 : ∀ u, u ≠ 28 → KeepTy u _ _ := fun u hu => KeepTy.grown hg4 (fun g e => by cases e; exact NotTy.of H83.out (Ne.symm hu))
     have hx4 := hx3.keep (fun u hu => hk4 u (by rcases hu with h | h | h | h | h | h <;> rw [h] <;> decide))
     have h134 := hk4 _ (by decide) _ _ h133
     have hrw4 := hrw3.same (w' := w4) (fun cs y ⟨a, v, e, h⟩ => ⟨a, v, e, h.keepTy (hk4 _ (by decide))⟩) (hk4 _ (by decide))
     have hkb4 := hkb3.grown hg4 (fun g e hl => by cases e; omega)
     have HZ := Lib.hid (And.intro hkb4 (And.intro hx4 (And.intro h134 (And.intro hr4 hrw4))))
     clear hx3 hk4 hx4 h134 hrw4 hkb4 hr4 hg4 hrw3 hkb3 h133 H3 H83 HPX2 HIO HI2
     dsimp only [Act.put]
     refine gen_worldA (fun W4 => KB (fun g => g = L) w W4 ∧ PrX M Bp W4 p (.slice ia p.inputs.length ic) (.slice ja p.lines.length jc) ∧ W4.heap[y13]? = some (.cells #[.string (str []), .int .i64 a13, .slice va items.length vc] 67 (0, 0)) ∧ W4.heap[y8]? = some (.cells #[.int .i64 fa, .int .i64 fx] 28 (0, 0)) ∧ RowG itmR 0 121 W4 (.slice va items.length vc) items) HZ.out ?_
     clear HZ c132 f132
     rintro W4 ⟨hkb, hpx, h12, h8, hrw⟩
     have cb0 := cell_of_row W4 Bp 1 _ _ _ hpx.1
     have k0 := cell_of_row W4 y13 0 _ _ _ h12
     have k1 := cell_of_row W4 y13 1 _ _ _ h12
     have k2 := cell_of_row W4 y13 2 _ _ _ h12
     have HX := Lib.hid (And.intro hkb (And.intro hpx (And.intro h12 (And.intro h8 hrw))))
     clear hkb hpx h12 h8 hrw
     refine wp_region_Z (S := fun W' => (W'.cell? ⟨Bp, 1, none⟩ = some (.slice ja p.lines.length jc) ∧ W'.cell? ⟨y13, 0, none⟩ = some (.string (str []))) ∧ W'.cell? ⟨y13, 1, none⟩ = some (.int .i64 a13) ∧ W'.cell? ⟨y13, 2, none⟩ = some (.slice va items.length vc)) (z := 10) (by kernel_rfl) ?_
     have hSS : (fun W' : World => (W'.cell? ⟨Bp, 1, none⟩ = some (.slice ja p.lines.length jc) ∧ W'.cell? ⟨y13, 0, none⟩ = some (.string (str []))) ∧ W'.cell? ⟨y13, 1, none⟩ = some (.int .i64 a13) ∧ W'.cell? ⟨y13, 2, none⟩ = some (.slice va items.length vc)) W4.drew := ⟨⟨cb0, k0⟩, k1, k2⟩
     clear cb0 k0 k1 k2
     refine wpAnyZ_take (i := 0) (v := ?_) rfl (by kernel_rfl) (by kernel_rfl) (by kernel_rfl) (fun _ _ _ h => h) (by kernel_rfl) (Or.inl ⟨by rfl, ?_⟩) (by assumption) ?_
     rotate_left
     ·intro w' hSw
      try dsimp only at hSw
      try obtain ⟨hSw, hSw2⟩ := hSw
      go_simp
      try with_reducible rfl
     show wpAnyZ _ _ _ _ _ _ _ _ (Act.put _ (some 131) _) _
     simp only [Act.put, List.setIfInBounds_toArray, List.set_cons_zero, List.set_cons_succ]
     refine wpAnyZ_take (i := 1) (v := ?_) rfl (by kernel_rfl) (by kernel_rfl) (by kernel_rfl) (fun _ _ _ h => h) (by kernel_rfl) (Or.inl ⟨by rfl, ?_⟩) (by assumption) ?_
     rotate_left
     ·intro w' hSw
      try dsimp only at hSw
      try obtain ⟨hSw, hSw2⟩ := hSw
      go_simp
      try with_reducible rfl
     show wpAnyZ _ _ _ _ _ _ _ _ (Act.put _ (some 132) _) _
     simp only [Act.put, List.setIfInBounds_toArray, List.set_cons_zero, List.set_cons_succ]
     refine wpAnyZ_take (i := 2) (v := ?_) rfl (by kernel_rfl) (by kernel_rfl) (by kernel_rfl) (fun _ _ _ h => h) (by kernel_rfl) (Or.inl ⟨by rfl, ?_⟩) (by assumption) ?_
     rotate_left
     ·intro w' hSw
      try dsimp only at hSw
      try obtain ⟨hSw, hSw2⟩ := hSw
      go_simp
      try with_reducible rfl
     show wpAnyZ _ _ _ _ _ _ _ _ (Act.put _ (some 133) _) _
     simp only [Act.put, List.setIfInBounds_toArray, List.set_cons_zero, List.set_cons_succ]
     refine wpAnyZ_take (i := 3) (v := ?_) rfl (by kernel_rfl) (by kernel_rfl) (by kernel_rfl) (fun _ _ _ h => h) (by kernel_rfl) (Or.inl ⟨by rfl, ?_⟩) (by assumption) ?_
     rotate_left
     ·intro w' hSw
      try dsimp only at hSw
      try obtain ⟨hSw, hSw2⟩ := hSw
      go_simp
      try with_reducible rfl
     show wpAnyZ _ _ _ _ _ _ _ _ (Act.put _ (some 134) _) _
     simp only [Act.put, List.setIfInBounds_toArray, List.set_cons_zero, List.set_cons_succ]
     refine wpAnyZ_take (i := 4) (v := ?_) rfl (by kernel_rfl) (by kernel_rfl) (by kernel_rfl) (fun _ _ _ h => h) (by kernel_rfl) (Or.inl ⟨by rfl, ?_⟩) (by assumption) ?_
     rotate_left
     ·intro w' hSw
      try dsimp only at hSw
      try obtain ⟨hSw, hSw2⟩ := hSw
      go_simp
      try with_reducible rfl
     show wpAnyZ _ _ _ _ _ _ _ _ (Act.put _ (some 135) _) _
     simp only [Act.put, List.setIfInBounds_toArray, List.set_cons_zero, List.set_cons_succ]
     refine wpAnyZ_take (i := 5) (v := ?_) rfl (by kernel_rfl) (by kernel_rfl) (by kernel_rfl) (fun _ _ _ h => h) (by kernel_rfl) (Or.inl ⟨by rfl, ?_⟩) (by assumption) ?_
     rotate_left
     ·intro w' hSw
      try dsimp only at hSw
      try obtain ⟨hSw, hSw2⟩ := hSw
      go_simp
      try with_reducible rfl
     show wpAnyZ _ _ _ _ _ _ _ _ (Act.put _ (some 136) _) _
     simp only [Act.put, List.setIfInBounds_toArray, List.set_cons_zero, List.set_cons_succ]
     clear hSS
     obtain ⟨hkb, hpx, h12, h8, hrw⟩ := HX.out
     have hkb := hkb.drew
     have hd : Below W4.heap.size W4 W4.drew := (Below.refl _ _).drew
     have hpx := hpx.keep (fun u _ => KeepTy.below hd)
     have h12 := block_below h12 hd
     have h8 := block_below h8 hd
     have hrw := hrw.next hd
     have hsz : y13 < W4.drew.heap.size := block_lt h12
     clear HX hd
     generalize W4.drew = W5 at hkb hpx h12 h8 hrw hsz ⊢
     have HX := Lib.hid (And.intro hkb (And.intro hpx (And.intro h12 (And.intro h8 hrw))))
     clear hkb hpx h12 h8 hrw
     refine wpAnyZ_one (i := 6) (by kernel_rfl) rfl rfl (fun K hK => ?_)
     go_simp
     obtain ⟨hkb, hpx, h12, h8, hrw⟩ := HX.out
     have hd : Below W5.heap.size W5 (W5.alloc (.cells #[.string (str []), .int .i64 a13, .slice va items.length vc] 67)) := (Below.refl _ _).alloc (Nat.le_refl _) _
     have hkb := hkb.alloc (.cells #[.string (str []), .int .i64 a13, .slice va items.length vc] 67)
     have hpx := hpx.keep (fun u _ => KeepTy.below hd)
     have h12 := block_below h12 hd
     have h8 := block_below h8 hd
     have hrw := hrw.next hd
     have hGa := World.alloc_heap_new W5 (.cells #[.string (str []), .int .i64 a13, .slice va items.length vc] 67)
     refine hK.out _ _ (.inr ⟨⟨cell_of_row _ Bp 1 _ _ _ hpx.1, cell_of_row _ y13 0 _ _ _ h12⟩, cell_of_row _ y13 1 _ _ _ h12, cell_of_row _ y13 2 _ _ _ h12⟩) ?_
     clear hK HX hd
     obtain ⟨g5, hg5⟩ : ∃ g, W5.heap.size = g := ⟨_, rfl⟩
     rw [hg5] at hGa ⊢
     have hMw : M ≤ (W5.alloc (.cells #[.string (str []), .int .i64 a13, .slice va items.length vc] 67)).heap.size := by simp; omega
     generalize W5.alloc (.cells #[.string (str []), .int .i64 a13, .slice va items.length vc] 67) = W6 at hkb hpx h12 h8 hrw hGa hMw ⊢
     refine wpAnyZ_one (i := 7) (by kernel_rfl) rfl rfl (fun K hK => ?_)
     refine wp_pushG (.tmp 135) (.tmp 137) 23 67 rfl (.agg #[.string ⟨#[]⟩, .int .i64 0, .slice none 0 0]) 48 Tryz.underlying23 (by kernel_rfl) (by rfl) (show 0 < 3 by decide) M M g5 (keep_lin _) _ p.lines (LinP.mk [] items) _ rfl hpx.2.2 rfl hGa ⟨a13, _, rfl, hrw⟩ (by unfold maxLen; omega) (by omega) (Nat.le_refl _) hMw ?_
     intro v' wz hrz hbz hgz hkz
     have hpu := PrI.pushL hpx.1 hpx.2.1 hpx.2.2 hMB hMw hrz hgz
     have hbpz := hkz _ (by decide) _ _ hpx.1
     have h12z := block_grown h12 hgz (HJO.out _ (Nat.le_refl _))
     have h8z := hkz _ (by decide) _ _ h8
     obtain ⟨za, zc, hz⟩ := hrz.form
     rw [List.length_append, List.length_singleton] at hz
     subst hz
     refine hK.out _ _ (.inr ⟨⟨cell_of_row _ Bp 1 _ _ _ hbpz, cell_of_row _ y13 0 _ _ _ h12z⟩, cell_of_row _ y13 1 _ _ _ h12z, cell_of_row _ y13 2 _ _ _ h12z⟩) ?_
     clear hK
     refine wpAnyZ_one (i := 8) (by kernel_rfl) rfl rfl (fun K hK => ?_)
     go_simp
     refine hK.out _ _ (.inr ⟨⟨cell_of_row _ Bp 1 _ _ _ hbpz, cell_of_row _ y13 0 _ _ _ h12z⟩, cell_of_row _ y13 1 _ _ _ h12z, cell_of_row _ y13 2 _ _ _ h12z⟩) ?_
     clear hK
     refine wpAnyZ_one (i := 9) (by kernel_rfl) rfl rfl (fun K hK => ?_)
     go_simp
     refine hK.out _ _ (.inr ⟨⟨cell_of_row _ Bp 1 _ _ _ hbpz, cell_of_row _ y13 0 _ _ _ h12z⟩, cell_of_row _ y13 1 _ _ _ h12z, cell_of_row _ y13 2 _ _ _ h12z⟩) ?_
     clear hK
     have cbz := cell_of_row wz Bp 1 _ _ _ hbpz
     have fbz := frozen_of_row wz Bp 1 _ _ hbpz
     have hbel : Below M w _ := (hkb.below (by omega) (fun g hg => by subst hg; exact hML)).trans hpu.2.1
     have hfr : Frame w _ := fun u a1 a2 a3 a4 => (keepTy_kbL HWL.out hkb u a1).trans (hpu.2.2.1 u a2 a4)
     have ho : KeepO Bp w _ := fun g cur hne hg => hpu.2.2.2 g cur hne (keepTy_kbL HWL.out hkb _ (by decide) _ _ hg)
     have h8x := hpu.2.2.1 _ (by decide) (by decide) _ _ h8
     have HEND := Lib.hid (And.intro hbel (And.intro hfr (And.intro h8x (And.intro hpu.1 ho))))
     clear hkb hpx h12 h8 hrw hGa hrz hbz hgz hkz hpu hbpz h12z h8z hbel hfr h8x ho
     refine wpAnyZ_one (i := 10) (by kernel_rfl) rfl rfl (fun K hK => ?_)
     go_simp
     refine hK.out _ _ (.inl (by omega)) ?_
     clear hK cbz fbz
     refine wpAnyZ_done (by kernel_rfl) ?_ _
     go_upto_region 27 with fail
     refine gen_worldA (fun X => Below M w X ∧ Frame w X ∧ X.heap[y8]? = some (.cells #[.int .i64 fa, .int .i64 fx] 28 (0, 0)) ∧ PrI M Bp X ⟨p.inputs, p.lines ++ [LinP.mk [] items]⟩ ∧ KeepO Bp w X) HEND.out ?_
     clear HEND
     rintro X ⟨hb, hf, h8, hpr, ho⟩
     have c80 := cell_of_row X y8 0 _ _ _ h8
     have c81 := cell_of_row X y8 1 _ _ _ h8
     have f80 := frozen_of_row X y8 0 _ _ h8
     have f81 := frozen_of_row X y8 1 _ _ h8
     have HX := Lib.hid (And.intro hb (And.intro hf (And.intro h8 (And.intro hpr ho))))
     clear hb hf h8 hpr ho
     go_wp2_with fail
     obtain ⟨z1, z2, z3, z4, zo⟩ := into_last (Bp := Bp) HX.out.1 HX.out.2.1 HX.out.2.2.2.2 HX.out.2.2.1 (by omega) (by omega) _ rfl
     refine bodyPost_ret (results_into y8 rfl z1 (by kernel_rfl)) rfl ⟨z2, z3, zo, _, _, rfl, ?_⟩
     rw [← HR2.out]
     have hm := HM.out
     cases P with
     | none => exact hm
     | some y =>
      obtain ⟨rfl, h1, h2⟩ := hm
      exact ⟨h1, h2, z4 _ HX.out.2.2.2.1⟩
     all_goals skip
     -- OA>
    | false =>
     -- <OB
     by_cases hk1 : tk = 1
     ·have p1 : (tk != 1) = false := by rw [hk1]; rfl
      have hnm := Name_any tw W (TabT.below HTB.out (HIS.out.line.size ▸ HIS.out.line.below)) hshort
      cases hnv : nameW tw with
      | false =>
       rw [hnv] at hnm
       have HNM := Lib.hid hnm
       have hRn : R = none := by rw [← HR.out, if_pos ⟨rfl, .inr hnv⟩]
       clear hnm
       go_upto_region 16 with (go_at_call 37; refine HNM.out.mono ?_; rintro e wn ⟨rfl, hbn⟩; have HBN := Lib.hid hbn; clear hbn)
       refine gen_worldA (fun W => IS W0 w L (.slice la toks.length lc) toks e M Bp y8 W 0 p) (HIS.out.next HBN.out) ?_
       clear HIS HPX HIO HJO cb0 cb1 c90 c91 c92 l0 lm fm HY9 HNM HBN
       rintro W his
       have HIS := Lib.hid his
       clear his
       go_wp2_with fail
       refine (fault_any HIS.out.line 40).mono ?_
       rintro _ wf ⟨⟨fa, rfl⟩, hbf⟩
       have his := HIS.out.next hbf
       have c80 := cell_of_row wf y8 0 _ _ _ his.b8
       have c81 := cell_of_row wf y8 1 _ _ _ his.b8
       have f80 := frozen_of_row wf y8 0 _ _ his.b8
       have f81 := frozen_of_row wf y8 1 _ _ his.b8
       have HIS2 := Lib.hid his
       clear his hbf
       dsimp only
       go_wp2_with fail
       obtain ⟨z1, z2, z3, zo⟩ := HIS2.out.end hML _ _ _ rfl
       exact bodyPost_ret (results_into y8 rfl z1 (by kernel_rfl)) rfl ⟨z2, z3, zo, _, _, rfl, by first | rfl | (rw [hRn]; rfl)⟩
       all_goals skip
      | true =>
       rw [hnv] at hnm
       have HNM := Lib.hid hnm
       have hR := HR.out
       rw [if_neg (by rintro ⟨_, h | h⟩; exact h hk1; rw [show VV.name tw = true from hnv] at h; cases h), if_neg (by decide)] at hR
       have HRx := Lib.hid hR
       clear hnm hR HR
       go_upto_region 17 with (go_at_call 37; refine HNM.out.mono ?_; rintro e wn ⟨rfl, hbn⟩; have HBN := Lib.hid hbn; clear hbn)
       have hle := HBN.out.size
       refine gen_worldA (fun W' => W.heap.size ≤ W'.heap.size ∧ IS W0 w L (.slice la toks.length lc) toks e M Bp y8 W' 0 p ∧ W'.heap[y9]? = some (.cells #[.int .i64 tk, .int .i64 a9, .string (str tw), .int .i64 tn] 39 (0, 0)) ∧ PrX M Bp W' p (.slice ia p.inputs.length ic) (.slice ja p.lines.length jc)) ⟨hle, HIS.out.next HBN.out, block_below HY9.out HBN.out, HPX.out.keep (fun u _ => KeepTy.below HBN.out)⟩ ?_
       clear HIS HPX cb0 cb1 c90 c91 c92 l0 lm fm HY9 HNM HBN hle
       rintro W' ⟨hle, his, hy9, hpx⟩
       have HIO' := Lib.hid (fun y (hy : W'.heap.size ≤ y) => HIO.out y (by omega))
       have HJO' := Lib.hid (fun y (hy : W'.heap.size ≤ y) => HJO.out y (by omega))
       clear HIO HJO hle
       clear W
       obtain ⟨W, rfl⟩ : ∃ W : World, W = W' := ⟨_, rfl⟩
       have HIO := HIO'; have HJO := HJO'
       clear HIO' HJO'
       have c91 := cell_of_row W y9 1 _ _ _ hy9
       have c92 := cell_of_row W y9 2 _ _ _ hy9
       have lm := his.line.cells.2.1
       have fm := frozen_of_row W L 1 _ _ his.line.box
       have h9l := block_lt hy9
       have HIS := Lib.hid his; have HPX := Lib.hid hpx
       clear his hy9 hpx
       have his1 := (HIS.out.setN 1 (by omega)).alloc (.cells #[.string (str tw), .int .i64 a9, .slice none 0 0] 67)
       have h13 := World.alloc_heap_new (W.setCell ⟨L, 1, none⟩ (.int .i64 (1 : Nat))) (.cells #[.string (str tw), .int .i64 a9, .slice none 0 0] 67)
       have hpx1 := (HPX.out.keep (fun u hu => keepTy_kbL HIS.out.line ((KB.refl (fun g => g = L) W).setCell (p := ⟨L, 1, none⟩) (fun _ => rfl) (.int .i64 (1 : Nat))) u (by rcases hu with h | h | h | h | h | h <;> rw [h] <;> decide))).keep (fun u _ => KeepTy.below ((Below.refl _ _).alloc (Nat.le_refl _) (.cells #[.string (str tw), .int .i64 a9, .slice none 0 0] 67)))
       rw [show (W.setCell ⟨L, 1, none⟩ (.int .i64 (1 : Nat))).heap.size = W.heap.size by simp] at h13
       have h8l := block_lt HIS.out.b8
       have hLW := block_lt HIS.out.line.box
       have H1 := Lib.hid (And.intro his1 (And.intro h13 hpx1))
       clear his1 h13 hpx1 HIS HPX
       go_upto_region 21 with fail
       refine gen_worldA (fun W1 => IS W0 w L (.slice la toks.length lc) toks e M Bp y8 W1 1 p ∧ W1.heap[W.heap.size]? = some (.cells #[.string (str tw), .int .i64 a9, .slice none 0 0] 67 (0, 0)) ∧ PrX M Bp W1 p (.slice ia p.inputs.length ic) (.slice ja p.lines.length jc)) H1.out ?_
       clear H1 c91 c92 lm fm hLW h9l
       generalize W.heap.size = y13 at h8l HIO HJO ⊢
       clear W
       rintro W ⟨his, h13, hpx⟩
       have hpk := peek_any his.line
       obtain ⟨t1, ht1⟩ : ∃ t1, headT (restT toks 1) = t1 := ⟨_, rfl⟩
       have hR := HRx.out
       rw [ht1] at hpk hR
       obtain ⟨vk, vw, vn⟩ := t1
       unfold tkV at hpk
       dsimp only at hpk
       have HPK := Lib.hid hpk; have HIS := Lib.hid his; have H13 := Lib.hid h13; have HPX := Lib.hid hpx; have HT1 := Lib.hid ht1; have HR1 := Lib.hid hR
       clear hpk his h13 hpx ht1 hR HRx
       go_wp2_with fail
       refine HPK.out.mono ?_
       rintro _ wc ⟨⟨a14, rfl⟩, hbc⟩
       have hb2 := hbc.trans (((Below.refl wc.heap.size wc).alloc (Nat.le_refl _) (.cells #[.int .i64 vk, .int .i64 a14, .string (str vw), .int .i64 vn] 39)).mono hbc.size)
       have his := HIS.out.next hb2
       have h13 := block_below H13.out hb2
       have hpx := HPX.out.keep (fun u _ => KeepTy.below hb2)
       have hy14 := World.alloc_heap_new wc (.cells #[.int .i64 vk, .int .i64 a14, .string (str vw), .int .i64 vn] 39)
       have HZ := Lib.hid (And.intro his (And.intro h13 (And.intro hpx hy14)))
       clear his h13 hpx hy14 hb2 hbc HPK HIS H13 HPX
       dsimp only
       go_upto_region 22 with fail
       refine gen_worldA (fun W1 => IS W0 w L (.slice la toks.length lc) toks e M Bp y8 W1 1 p ∧ W1.heap[y13]? = some (.cells #[.string (str tw), .int .i64 a9, .slice none 0 0] 67 (0, 0)) ∧ PrX M Bp W1 p (.slice ia p.inputs.length ic) (.slice ja p.lines.length jc) ∧ W1.heap[wc.heap.size]? = _) HZ.out ?_
       clear HZ
       generalize wc.heap.size = y14
       clear wc W
       rintro W ⟨his, h13, hpx, hy14⟩
       have c140 := cell_of_row W y14 0 _ _ _ hy14
       have c142 := cell_of_row W y14 2 _ _ _ hy14
       have lm := his.line.cells.2.1
       have fm := frozen_of_row W L 1 _ _ his.line.box
       have HIS := Lib.hid his; have H13 := Lib.hid h13; have HPX := Lib.hid hpx
       clear his h13 hpx hy14
       by_cases hcol : isSign ⟨vk, vw, vn⟩ 58 = false
       ·have hRn : R = none := by rw [← HR1.out, if_pos hcol]
        have hq : (vk == 3) = true → (vw == [58]) = false := fun h => by
         rw [beq_eq_false_iff_ne]
         intro hw
         unfold isSign at hcol
         dsimp only at hcol
         rw [h, decide_eq_true hw] at hcol
         cases hcol
        clear HPX HIO HJO
        cases h3 : (vk == 3) with
        | false =>
         have p3 : (vk != 3) = true := by simpa using h3
         go_wp2_with fail
         refine (fault_any HIS.out.line 42).mono ?_
         rintro _ wf ⟨⟨fa, rfl⟩, hbf⟩
         have his := HIS.out.next hbf
         have c80 := cell_of_row wf y8 0 _ _ _ his.b8
         have c81 := cell_of_row wf y8 1 _ _ _ his.b8
         have f80 := frozen_of_row wf y8 0 _ _ his.b8
         have f81 := frozen_of_row wf y8 1 _ _ his.b8
         have HIS2 := Lib.hid his
         clear his hbf
         dsimp only
         go_wp2_with fail
         obtain ⟨z1, z2, z3, zo⟩ := HIS2.out.end hML _ _ _ rfl
         exact bodyPost_ret (results_into y8 rfl z1 (by kernel_rfl)) rfl ⟨z2, z3, zo, _, _, rfl, by first | rfl | (rw [hRn]; rfl)⟩
         all_goals skip
        | true =>
         have p3 : (vk != 3) = false := by simpa using h3
         have p58 : (vw == [58]) = false := hq h3
         have p58' : (vw != [58]) = true := by simpa using p58
         go_wp2_with fail
         refine (fault_any HIS.out.line 42).mono ?_
         rintro _ wf ⟨⟨fa, rfl⟩, hbf⟩
         have his := HIS.out.next hbf
         have c80 := cell_of_row wf y8 0 _ _ _ his.b8
         have c81 := cell_of_row wf y8 1 _ _ _ his.b8
         have f80 := frozen_of_row wf y8 0 _ _ his.b8
         have f81 := frozen_of_row wf y8 1 _ _ his.b8
         have HIS2 := Lib.hid his
         clear his hbf
         dsimp only
         go_wp2_with fail
         obtain ⟨z1, z2, z3, zo⟩ := HIS2.out.end hML _ _ _ rfl
         exact bodyPost_ret (results_into y8 rfl z1 (by kernel_rfl)) rfl ⟨z2, z3, zo, _, _, rfl, by first | rfl | (rw [hRn]; rfl)⟩
         all_goals skip
       ·have hcs : vk = 3 ∧ vw = [58] := by
         have h : isSign ⟨vk, vw, vn⟩ 58 = true := by simpa using hcol
         unfold isSign at h
         simpa using h
        obtain ⟨rfl, rfl⟩ := hcs
        have h2l := hd_lt HT1.out (show (3 : Int) ≠ 4 by decide)
        have hR := HR1.out
        rw [if_neg hcol, rest_tail] at hR
        have HR := Lib.hid hR
        have his1 := HIS.out.setN 2 (by omega)
        have hkL := fun u (hu : u ≠ 62) => keepTy_kbL HIS.out.line ((KB.refl (fun g => g = L) W).setCell (p := ⟨L, 1, none⟩) (fun _ => rfl) (.int .i64 (2 : Nat))) u hu
        have h131 := hkL _ (by decide) _ _ H13.out
        have hpx1 := HPX.out.keep (fun u hu => hkL u (by rcases hu with h | h | h | h | h | h <;> rw [h] <;> decide))
        have HZ := Lib.hid (And.intro his1 (And.intro h131 hpx1))
        clear hR HR1 HT1 his1 hkL h131 hpx1 HIS H13 HPX hcol
        go_upto_region 25 with fail
        refine gen_worldA (fun W1 => IS W0 w L (.slice la toks.length lc) toks e M Bp y8 W1 2 p ∧ W1.heap[y13]? = some (.cells #[.string (str tw), .int .i64 a9, .slice none 0 0] 67 (0, 0)) ∧ PrX M Bp W1 p (.slice ia p.inputs.length ic) (.slice ja p.lines.length jc)) HZ.out ?_
        clear HZ c140 c142 lm fm
        clear W
        rintro W ⟨his, h13, hpx⟩
        obtain ⟨a13, ha13⟩ : ∃ a, a9 = a := ⟨_, rfl⟩
        rw [ha13] at h13
        have HIS := Lib.hid his; have H13 := Lib.hid h13; have HPX := Lib.hid hpx
        clear his h13 hpx
        have hex := expr_any HIS.out.line HTB.out
        obtain ⟨P, hP⟩ : ∃ P, exprP VV (restT toks 2) = P := ⟨_, rfl⟩
        rw [hP] at hex
        have hR2 := HR.out
        rw [hP] at hR2
        have HEX := Lib.hid hex; have HR2 := Lib.hid hR2
        clear hex hR2 HR hP
        go_wp2_with fail
        refine HEX.out.mono ?_
        rintro _ wb ⟨hkb, v, fa, fx, n', rfl, hli, hm⟩
        have his2 := HIS.out.lineN hkb hli
        have hk := fun u hu => keepTy_kbL HIS.out.line hkb u hu
        have h13 := hk _ (by decide) _ _ H13.out
        have hpx2 := HPX.out.keep (fun u hu => hk u (by rcases hu with h | h | h | h | h | h <;> rw [h] <;> decide))
        obtain ⟨items, hrow, hm2⟩ : ∃ items, RowG itmR 0 121 wb v items ∧ ExM P items fa fx := by
         cases P with
         | none => exact ⟨[], hm.2 ▸ RowG.nil _ _ _ _, hm.1⟩
         | some l => exact ⟨l, hm.2.2.mono (Nat.zero_le _), rfl, hm.1, hm.2.1⟩
        obtain ⟨va, vc, rfl⟩ := hrow.form
        have HI2 := Lib.hid his2; have HPX2 := Lib.hid hpx2; have HM := Lib.hid hm2
        have c132 := cell_of_row wb y13 2 _ _ _ h13
        have f132 := frozen_of_row wb y13 2 _ _ h13
        have hk3 : ∀ u, u ≠ 67 → KeepTy u wb (wb.setCell ⟨y13, 2, none⟩ (.slice va items.length vc)) := fun u hu => KeepTy.setCell (p := ⟨y13, 2, none⟩) (NotTy.of h13 (Ne.symm hu)) _
        have hg3 : wb.grownBy (wb.setCell ⟨y13, 2, none⟩ (.slice va items.length vc)) (some y13) := ⟨rfl, rfl, rfl, by simp, fun k _ hne => Below.heap_setCell _ _ _ _ (fun e => hne (by rw [e]))⟩
        have h133 := set_block (k := 2) (v := .slice va items.length vc) h13
        have hx3 := hpx2.other hg3 h13 (by decide) (HIO.out _ (Nat.le_refl _)) (HJO.out _ (Nat.le_refl _))
        have hrw3 := hrow.same (w' := wb.setCell ⟨y13, 2, none⟩ (.slice va items.length vc)) (fun cs y ⟨a, v, e, h⟩ => ⟨a, v, e, h.keepTy (hk3 _ (by decide))⟩) (hk3 _ (by decide))
        have hkb3 := his2.kb.setCell (p := ⟨y13, 2, none⟩) (fun hl => absurd hl (show ¬ y13 < w.heap.size by omega)) (.slice va items.length vc)
        have H83 := Lib.hid (hk3 28 (by decide) _ _ his2.b8)
        have H3 := Lib.hid (And.intro hx3 (And.intro hrw3 (And.intro hkb3 h133)))
        clear his2 hk h13 hpx2 hrow hm hm2 hkb hli hk3 hg3 h133 hx3 hrw3 hkb3 HIS H13 HPX HEX
        dsimp only
        go_upto_region 26 with ((with_reducible show wpList _ _ _ ({ dst := none, op := Op.store 28 (.tmp 8) (.tmp _), type := _, pos := _, after := _, guard := _ } :: _) _ _); (refine wpList_storeW rfl 28 _ _ rfl y8 rfl _ _ rfl _ H83.out (by kernel_rfl) (by rfl) (by rfl) ?_); intro w4 hr4 hg4)
        obtain ⟨hx3, hrw3, hkb3, h133⟩ := H3.out
        have hk4 : ∀ u, u ≠ 28 → KeepTy u _ _ := fun u hu => KeepTy.grown hg4 (fun g e => by cases e; exact NotTy.of H83.out (Ne.symm hu))
        have hx4 := hx3.keep (fun u hu => hk4 u (by rcases hu with h | h | h | h | h | h <;> rw [h] <;> decide))
        have h134 := hk4 _ (by decide) _ _ h133
        have hrw4 := hrw3.same (w' := w4) (fun cs y ⟨a, v, e, h⟩ => ⟨a, v, e, h.keepTy (hk4 _ (by decide))⟩) (hk4 _ (by decide))
        have hkb4 := hkb3.grown hg4 (fun g e hl => by cases e; omega)
        have HZ := Lib.hid (And.intro hkb4 (And.intro hx4 (And.intro h134 (And.intro hr4 hrw4))))
        clear hx3 hk4 hx4 h134 hrw4 hkb4 hr4 hg4 hrw3 hkb3 h133 H3 H83 HPX2 HIO HI2
        dsimp only [Act.put]
        refine gen_worldA (fun W4 => KB (fun g => g = L) w W4 ∧ PrX M Bp W4 p (.slice ia p.inputs.length ic) (.slice ja p.lines.length jc) ∧ W4.heap[y13]? = some (.cells #[.string (str tw), .int .i64 a13, .slice va items.length vc] 67 (0, 0)) ∧ W4.heap[y8]? = some (.cells #[.int .i64 fa, .int .i64 fx] 28 (0, 0)) ∧ RowG itmR 0 121 W4 (.slice va items.length vc) items) HZ.out ?_
        clear HZ c132 f132
        rintro W4 ⟨hkb, hpx, h12, h8, hrw⟩
        have cb0 := cell_of_row W4 Bp 1 _ _ _ hpx.1
        have k0 := cell_of_row W4 y13 0 _ _ _ h12
        have k1 := cell_of_row W4 y13 1 _ _ _ h12
        have k2 := cell_of_row W4 y13 2 _ _ _ h12
        have HX := Lib.hid (And.intro hkb (And.intro hpx (And.intro h12 (And.intro h8 hrw))))
        clear hkb hpx h12 h8 hrw
        refine wp_region_Z (S := fun W' => (W'.cell? ⟨Bp, 1, none⟩ = some (.slice ja p.lines.length jc) ∧ W'.cell? ⟨y13, 0, none⟩ = some (.string (str tw))) ∧ W'.cell? ⟨y13, 1, none⟩ = some (.int .i64 a13) ∧ W'.cell? ⟨y13, 2, none⟩ = some (.slice va items.length vc)) (z := 10) (by kernel_rfl) ?_
        have hSS : (fun W' : World => (W'.cell? ⟨Bp, 1, none⟩ = some (.slice ja p.lines.length jc) ∧ W'.cell? ⟨y13, 0, none⟩ = some (.string (str tw))) ∧ W'.cell? ⟨y13, 1, none⟩ = some (.int .i64 a13) ∧ W'.cell? ⟨y13, 2, none⟩ = some (.slice va items.length vc)) W4.drew := ⟨⟨cb0, k0⟩, k1, k2⟩
        clear cb0 k0 k1 k2
        refine wpAnyZ_take (i := 0) (v := ?_) rfl (by kernel_rfl) (by kernel_rfl) (by kernel_rfl) (fun _ _ _ h => h) (by kernel_rfl) (Or.inl ⟨by rfl, ?_⟩) (by assumption) ?_
        rotate_left
        ·intro w' hSw
         try dsimp only at hSw
         try obtain ⟨hSw, hSw2⟩ := hSw
         go_simp
         try with_reducible rfl
        show wpAnyZ _ _ _ _ _ _ _ _ (Act.put _ (some 131) _) _
        simp only [Act.put, List.setIfInBounds_toArray, List.set_cons_zero, List.set_cons_succ]
        refine wpAnyZ_take (i := 1) (v := ?_) rfl (by kernel_rfl) (by kernel_rfl) (by kernel_rfl) (fun _ _ _ h => h) (by kernel_rfl) (Or.inl ⟨by rfl, ?_⟩) (by assumption) ?_
        rotate_left
        ·intro w' hSw
         try dsimp only at hSw
         try obtain ⟨hSw, hSw2⟩ := hSw
         go_simp
         try with_reducible rfl
        show wpAnyZ _ _ _ _ _ _ _ _ (Act.put _ (some 132) _) _
        simp only [Act.put, List.setIfInBounds_toArray, List.set_cons_zero, List.set_cons_succ]
        refine wpAnyZ_take (i := 2) (v := ?_) rfl (by kernel_rfl) (by kernel_rfl) (by kernel_rfl) (fun _ _ _ h => h) (by kernel_rfl) (Or.inl ⟨by rfl, ?_⟩) (by assumption) ?_
        rotate_left
        ·intro w' hSw
         try dsimp only at hSw
         try obtain ⟨hSw, hSw2⟩ := hSw
         go_simp
         try with_reducible rfl
        show wpAnyZ _ _ _ _ _ _ _ _ (Act.put _ (some 133) _) _
        simp only [Act.put, List.setIfInBounds_toArray, List.set_cons_zero, List.set_cons_succ]
        refine wpAnyZ_take (i := 3) (v := ?_) rfl (by kernel_rfl) (by kernel_rfl) (by kernel_rfl) (fun _ _ _ h => h) (by kernel_rfl) (Or.inl ⟨by rfl, ?_⟩) (by assumption) ?_
        rotate_left
        ·intro w' hSw
         try dsimp only at hSw
         try obtain ⟨hSw, hSw2⟩ := hSw
         go_simp
         try with_reducible rfl
        show wpAnyZ _ _ _ _ _ _ _ _ (Act.put _ (some 134) _) _
        simp only [Act.put, List.setIfInBounds_toArray, List.set_cons_zero, List.set_cons_succ]
        refine wpAnyZ_take (i := 4) (v := ?_) rfl (by kernel_rfl) (by kernel_rfl) (by kernel_rfl) (fun _ _ _ h => h) (by kernel_rfl) (Or.inl ⟨by rfl, ?_⟩) (by assumption) ?_
        rotate_left
        ·intro w' hSw
         try dsimp only at hSw
         try obtain ⟨hSw, hSw2⟩ := hSw
         go_simp
         try with_reducible rfl
        show wpAnyZ _ _ _ _ _ _ _ _ (Act.put _ (some 135) _) _
        simp only [Act.put, List.setIfInBounds_toArray, List.set_cons_zero, List.set_cons_succ]
        refine wpAnyZ_take (i := 5) (v := ?_) rfl (by kernel_rfl) (by kernel_rfl) (by kernel_rfl) (fun _ _ _ h => h) (by kernel_rfl) (Or.inl ⟨by rfl, ?_⟩) (by assumption) ?_
        rotate_left
        ·intro w' hSw
         try dsimp only at hSw
         try obtain ⟨hSw, hSw2⟩ := hSw
         go_simp
         try with_reducible rfl
        show wpAnyZ _ _ _ _ _ _ _ _ (Act.put _ (some 136) _) _
        simp only [Act.put, List.setIfInBounds_toArray, List.set_cons_zero, List.set_cons_succ]
        clear hSS
        obtain ⟨hkb, hpx, h12, h8, hrw⟩ := HX.out
        have hkb := hkb.drew
        have hd : Below W4.heap.size W4 W4.drew := (Below.refl _ _).drew
        have hpx := hpx.keep (fun u _ => KeepTy.below hd)
        have h12 := block_below h12 hd
        have h8 := block_below h8 hd
        have hrw := hrw.next hd
        have hsz : y13 < W4.drew.heap.size := block_lt h12
        clear HX hd
        generalize W4.drew = W5 at hkb hpx h12 h8 hrw hsz ⊢
        have HX := Lib.hid (And.intro hkb (And.intro hpx (And.intro h12 (And.intro h8 hrw))))
        clear hkb hpx h12 h8 hrw
        refine wpAnyZ_one (i := 6) (by kernel_rfl) rfl rfl (fun K hK => ?_)
        go_simp
        obtain ⟨hkb, hpx, h12, h8, hrw⟩ := HX.out
        have hd : Below W5.heap.size W5 (W5.alloc (.cells #[.string (str tw), .int .i64 a13, .slice va items.length vc] 67)) := (Below.refl _ _).alloc (Nat.le_refl _) _
        have hkb := hkb.alloc (.cells #[.string (str tw), .int .i64 a13, .slice va items.length vc] 67)
        have hpx := hpx.keep (fun u _ => KeepTy.below hd)
        have h12 := block_below h12 hd
        have h8 := block_below h8 hd
        have hrw := hrw.next hd
        have hGa := World.alloc_heap_new W5 (.cells #[.string (str tw), .int .i64 a13, .slice va items.length vc] 67)
        refine hK.out _ _ (.inr ⟨⟨cell_of_row _ Bp 1 _ _ _ hpx.1, cell_of_row _ y13 0 _ _ _ h12⟩, cell_of_row _ y13 1 _ _ _ h12, cell_of_row _ y13 2 _ _ _ h12⟩) ?_
        clear hK HX hd
        obtain ⟨g5, hg5⟩ : ∃ g, W5.heap.size = g := ⟨_, rfl⟩
        rw [hg5] at hGa ⊢
        have hMw : M ≤ (W5.alloc (.cells #[.string (str tw), .int .i64 a13, .slice va items.length vc] 67)).heap.size := by simp; omega
        generalize W5.alloc (.cells #[.string (str tw), .int .i64 a13, .slice va items.length vc] 67) = W6 at hkb hpx h12 h8 hrw hGa hMw ⊢
        refine wpAnyZ_one (i := 7) (by kernel_rfl) rfl rfl (fun K hK => ?_)
        refine wp_pushG (.tmp 135) (.tmp 137) 23 67 rfl (.agg #[.string ⟨#[]⟩, .int .i64 0, .slice none 0 0]) 48 Tryz.underlying23 (by kernel_rfl) (by rfl) (show 0 < 3 by decide) M M g5 (keep_lin _) _ p.lines (LinP.mk tw items) _ rfl hpx.2.2 rfl hGa ⟨a13, _, rfl, hrw⟩ (by unfold maxLen; omega) (by omega) (Nat.le_refl _) hMw ?_
        intro v' wz hrz hbz hgz hkz
        have hpu := PrI.pushL hpx.1 hpx.2.1 hpx.2.2 hMB hMw hrz hgz
        have hbpz := hkz _ (by decide) _ _ hpx.1
        have h12z := block_grown h12 hgz (HJO.out _ (Nat.le_refl _))
        have h8z := hkz _ (by decide) _ _ h8
        obtain ⟨za, zc, hz⟩ := hrz.form
        rw [List.length_append, List.length_singleton] at hz
        subst hz
        refine hK.out _ _ (.inr ⟨⟨cell_of_row _ Bp 1 _ _ _ hbpz, cell_of_row _ y13 0 _ _ _ h12z⟩, cell_of_row _ y13 1 _ _ _ h12z, cell_of_row _ y13 2 _ _ _ h12z⟩) ?_
        clear hK
        refine wpAnyZ_one (i := 8) (by kernel_rfl) rfl rfl (fun K hK => ?_)
        go_simp
        refine hK.out _ _ (.inr ⟨⟨cell_of_row _ Bp 1 _ _ _ hbpz, cell_of_row _ y13 0 _ _ _ h12z⟩, cell_of_row _ y13 1 _ _ _ h12z, cell_of_row _ y13 2 _ _ _ h12z⟩) ?_
        clear hK
        refine wpAnyZ_one (i := 9) (by kernel_rfl) rfl rfl (fun K hK => ?_)
        go_simp
        refine hK.out _ _ (.inr ⟨⟨cell_of_row _ Bp 1 _ _ _ hbpz, cell_of_row _ y13 0 _ _ _ h12z⟩, cell_of_row _ y13 1 _ _ _ h12z, cell_of_row _ y13 2 _ _ _ h12z⟩) ?_
        clear hK
        have cbz := cell_of_row wz Bp 1 _ _ _ hbpz
        have fbz := frozen_of_row wz Bp 1 _ _ hbpz
        have hbel : Below M w _ := (hkb.below (by omega) (fun g hg => by subst hg; exact hML)).trans hpu.2.1
        have hfr : Frame w _ := fun u a1 a2 a3 a4 => (keepTy_kbL HWL.out hkb u a1).trans (hpu.2.2.1 u a2 a4)
        have ho : KeepO Bp w _ := fun g cur hne hg => hpu.2.2.2 g cur hne (keepTy_kbL HWL.out hkb _ (by decide) _ _ hg)
        have h8x := hpu.2.2.1 _ (by decide) (by decide) _ _ h8
        have HEND := Lib.hid (And.intro hbel (And.intro hfr (And.intro h8x (And.intro hpu.1 ho))))
        clear hkb hpx h12 h8 hrw hGa hrz hbz hgz hkz hpu hbpz h12z h8z hbel hfr h8x ho
        refine wpAnyZ_one (i := 10) (by kernel_rfl) rfl rfl (fun K hK => ?_)
        go_simp
        refine hK.out _ _ (.inl (by omega)) ?_
        clear hK cbz fbz
        refine wpAnyZ_done (by kernel_rfl) ?_ _
        go_upto_region 27 with fail
        refine gen_worldA (fun X => Below M w X ∧ Frame w X ∧ X.heap[y8]? = some (.cells #[.int .i64 fa, .int .i64 fx] 28 (0, 0)) ∧ PrI M Bp X ⟨p.inputs, p.lines ++ [LinP.mk tw items]⟩ ∧ KeepO Bp w X) HEND.out ?_
        clear HEND
        rintro X ⟨hb, hf, h8, hpr, ho⟩
        have c80 := cell_of_row X y8 0 _ _ _ h8
        have c81 := cell_of_row X y8 1 _ _ _ h8
        have f80 := frozen_of_row X y8 0 _ _ h8
        have f81 := frozen_of_row X y8 1 _ _ h8
        have HX := Lib.hid (And.intro hb (And.intro hf (And.intro h8 (And.intro hpr ho))))
        clear hb hf h8 hpr ho
        go_wp2_with fail
        obtain ⟨z1, z2, z3, z4, zo⟩ := into_last (Bp := Bp) HX.out.1 HX.out.2.1 HX.out.2.2.2.2 HX.out.2.2.1 (by omega) (by omega) _ rfl
        refine bodyPost_ret (results_into y8 rfl z1 (by kernel_rfl)) rfl ⟨z2, z3, zo, _, _, rfl, ?_⟩
        rw [← HR2.out]
        have hm := HM.out
        cases P with
        | none => exact hm
        | some y =>
         obtain ⟨rfl, h1, h2⟩ := hm
         exact ⟨h1, h2, z4 _ HX.out.2.2.2.1⟩
        all_goals skip
     ·have p1 : (tk != 1) = true := by simpa using hk1
      have hRn : R = none := by rw [← HR.out, if_pos ⟨rfl, .inl hk1⟩]
      clear HPX HIO HJO
      go_wp2_with fail
      refine (fault_any HIS.out.line 40).mono ?_
      rintro _ wf ⟨⟨fa, rfl⟩, hbf⟩
      have his := HIS.out.next hbf
      have c80 := cell_of_row wf y8 0 _ _ _ his.b8
      have c81 := cell_of_row wf y8 1 _ _ _ his.b8
      have f80 := frozen_of_row wf y8 0 _ _ his.b8
      have f81 := frozen_of_row wf y8 1 _ _ his.b8
      have HIS2 := Lib.hid his
      clear his hbf
      dsimp only
      go_wp2_with fail
      obtain ⟨z1, z2, z3, zo⟩ := HIS2.out.end hML _ _ _ rfl
      exact bodyPost_ret (results_into y8 rfl z1 (by kernel_rfl)) rfl ⟨z2, z3, zo, _, _, rfl, by first | rfl | (rw [hRn]; rfl)⟩
      all_goals skip
     -- OB>
end Go.Proofs.YtokghjnkfabgiaaGreatDoor
