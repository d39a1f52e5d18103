import Derived.Test.YtokghjnkfabgiaaGreatDoorTD36
import Derived.Test.YtokghjnkfabgiaaGreatDoorTD8
set_option linter.unusedVariables false
set_option linter.unusedSimpArgs false
set_option maxRecDepth 100000
namespace Go.Proofs.YtokghjnkfabgiaaGreatDoor
open Go.RowKit Go.Lib
attribute [local go_sem] str_size str_get str_toList field_tok0 field_tok2 field_tok3

theorem hd_lt {toks : List (Tk × Nat)} {n : Nat} {t : Tk} (h : headT (restT toks n) = t) (ht : t.kind ≠ 4) : n < toks.length := Nat.lt_of_not_le fun hle => by
 rw [rest_nil (by omega)] at h
 exact ht (congrArg Tk.kind h.symm)
theorem hd_cons {toks : List (Tk × Nat)} {n : Nat} {t : Tk} (h : headT (restT toks n) = t) (hn : n < toks.length) : restT toks n = t :: restT toks (n + 1) := by
 rw [rest_cons hn] at h ⊢
 rw [show toks[n].1 = t from h]
theorem results_input {tmps : Array Value} {w : World} (g g2 : Nat) {cs cs2 : Array Value}
  (hp : tmps.getD 2 undef = .pointer (some ⟨g, 0, none⟩)) (hp2 : tmps.getD 3 undef = .pointer (some ⟨g2, 0, none⟩)) (hg : w.heap[g]? = some (.cells cs 79 (0, 0))) (hs : (Tryz.prog.info? 79).map (·.size) = some cs.size) (hg2 : w.heap[g2]? = some (.cells cs2 28 (0, 0))) (hs2 : (Tryz.prog.info? 28).map (·.size) = some cs2.size) :
  (results Tryz.f36 tmps).run Tryz.prog w = .ok (.tuple #[.agg cs, .agg cs2]) w := by
 have hp' : tmps[2]?.getD undef = .pointer (some ⟨g, 0, none⟩) := by simpa using hp
 have hp2' : tmps[3]?.getD undef = .pointer (some ⟨g2, 0, none⟩) := by simpa using hp2
 have h : Tryz.f36.results = #[.cell 2 79, .cell 3 28] := by rfl
 simp [results, h, hp', hp2', asAddr, run_loadVar_row w g 79 79 cs (0, 0) _ hg Tryz.underlying79 rfl hs, run_loadVar_row w g2 28 28 cs2 (0, 0) _ hg2 Tryz.underlying28 rfl hs2]
def InpE (W0 : World) (L : Nat) (lv : Value) (toks : List (Tk × Nat)) (e : Int) (w : World) (R : Option InpP) (r : Ending) (w' : World) : Prop := KB (fun g => g = L) w w' ∧ ∃ (x : InpP) (a : Int) (v : Value) (fa fx : Int) (n' : Nat), r = .returned (.tuple #[.agg #[.string (str x.name), .int .i64 a, v], .agg #[.int .i64 fa, .int .i64 fx]]) ∧ LineI W0 L lv toks e w' n' ∧ RowG sidR w.heap.size 81 w' v x.sides ∧
 match R with
 | some y => y = x ∧ fa = 0 ∧ fx = 0
 | none => (fx == 0) = false
structure InI (W0 w : World) (L : Nat) (lv : Value) (toks : List (Tk × Nat)) (e : Int) (y2 y3 y4 : Nat) (W : World) (n : Nat) (nm : Str) (a : Int) (v : Value) (sides : List SidP) : Prop where
 line : LineI W0 L lv toks e W n
 kb : KB (fun g => g = L) w W
 b2 : W.heap[y2]? = some (.cells #[.string ⟨#[]⟩, .int .i64 0, .slice none 0 0] 79 (0, 0))
 b3 : W.heap[y3]? = some (.cells #[.int .i64 0, .int .i64 0] 28 (0, 0))
 b4 : W.heap[y4]? = some (.cells #[.string (str nm), .int .i64 a, v] 79 (0, 0))
 row : RowG sidR w.heap.size 81 W v sides
 hL : L < w.heap.size
 h2 : w.heap.size ≤ y2
 h3 : y2 < y3
 h4 : y3 < y4
section
variable {W0 w W W' : World} {L y2 y3 y4 n : Nat} {lv v : Value} {toks : List (Tk × Nat)} {e a : Int} {nm : Str} {sides : List SidP}
theorem InI.next (h : InI W0 w L lv toks e y2 y3 y4 W n nm a v sides) (hb : Below W.heap.size W W') : InI W0 w L lv toks e y2 y3 y4 W' n nm a v sides :=
 ⟨h.line.next hb, kbL_next h.kb hb, block_below h.b2 hb, block_below h.b3 hb, block_below h.b4 hb, h.row.next hb, h.hL, h.h2, h.h3, h.h4⟩
theorem InI.alloc (h : InI W0 w L lv toks e y2 y3 y4 W n nm a v sides) (o : Obj) : InI W0 w L lv toks e y2 y3 y4 (W.alloc o) n nm a v sides := h.next ((Below.refl _ _).alloc (Nat.le_refl _) o)
theorem InI.setN (h : InI W0 w L lv toks e y2 y3 y4 W n nm a v sides) (m : Nat) (hm : m ≤ toks.length) : InI W0 w L lv toks e y2 y3 y4 (W.setCell ⟨L, 1, none⟩ (.int .i64 (m : Int))) m nm a v sides := by
 have kL := (KB.refl (fun g => g = L) W).setCell (p := ⟨L, 1, none⟩) (fun _ => rfl) (.int .i64 (m : Int))
 have k := keepTy_kbL h.line kL
 exact ⟨h.line.setN m hm, h.kb.trans kL, k _ (by decide) _ _ h.b2, k _ (by decide) _ _ h.b3, k _ (by decide) _ _ h.b4, h.row.same (fun _ _ h => h) (k _ (by decide)), h.hL, h.h2, h.h3, h.h4⟩
set_option maxHeartbeats 4000000 in
theorem InI.end (h : InI W0 w L lv toks e y2 y3 y4 W n nm a v sides) (u0 u1 : Value) : ∀ W' : World, (W' = (((((W.setCell ⟨y2, 0, none⟩ (.string (str nm))).setCell ⟨y2, 1, none⟩ (.int .i64 a)).setCell ⟨y2, 2, none⟩ v).setCell ⟨y3, 0, none⟩ u0).setCell ⟨y3, 1, none⟩ u1) ∨ W' = (((((W.setCell ⟨y2, 0, none⟩ (.string (str nm))).setCell ⟨y2, 1, none⟩ (.int .i64 a)).setCell ⟨y2, 2, none⟩ v).setCell ⟨y3, 0, none⟩ u0).setCell ⟨y3, 1, none⟩ u1).drew) →
  W'.heap[y2]? = some (.cells #[.string (str nm), .int .i64 a, v] 79 (0, 0)) ∧ W'.heap[y3]? = some (.cells #[u0, u1] 28 (0, 0)) ∧ KB (fun g => g = L) w W' ∧ LineI W0 L lv toks e W' n ∧ RowG sidR w.heap.size 81 W' v sides := by
 have hL := h.hL; have h2 := h.h2; have h3 := h.h3
 have hne : y3 ≠ y2 := by omega
 have e1 : ((((#[.string ⟨#[]⟩, .int .i64 0, .slice none 0 0] : Array Value).setIfInBounds 0 (.string (str nm))).setIfInBounds 1 (.int .i64 a)).setIfInBounds 2 v) = #[.string (str nm), .int .i64 a, v] := by simp
 have e2 : (((#[.int .i64 0, .int .i64 0] : Array Value).setIfInBounds 0 u0).setIfInBounds 1 u1) = #[u0, u1] := by simp
 have p0 := set_block (k := 0) (v := .string (str nm)) h.b2
 have p1 := set_block (k := 1) (v := .int .i64 a) p0
 have p2 := set_block (k := 2) (v := v) p1
 have p3 := block_other p2 (p := ⟨y3, 0, none⟩) hne u0
 have z1 := block_other p3 (p := ⟨y3, 1, none⟩) hne u1
 have q0 := block_other h.b3 (p := ⟨y2, 0, none⟩) (Ne.symm hne) (.string (str nm))
 have q1 := block_other q0 (p := ⟨y2, 1, none⟩) (Ne.symm hne) (.int .i64 a)
 have q2 := block_other q1 (p := ⟨y2, 2, none⟩) (Ne.symm hne) v
 have q3 := set_block (k := 0) (v := u0) q2
 have z2 := set_block (k := 1) (v := u1) q3
 rw [e1] at z1
 rw [e2] at z2
 have n2 : ¬ y2 < w.heap.size := by omega
 have n3 : ¬ y3 < w.heap.size := by omega
 have k0 := h.kb.setCell (p := ⟨y2, 0, none⟩) (fun hl => absurd hl n2) (.string (str nm))
 have k1 := k0.setCell (p := ⟨y2, 1, none⟩) (fun hl => absurd hl n2) (.int .i64 a)
 have k2 := k1.setCell (p := ⟨y2, 2, none⟩) (fun hl => absurd hl n2) v
 have k3 := k2.setCell (p := ⟨y3, 0, none⟩) (fun hl => absurd hl n3) u0
 have zk := k3.setCell (p := ⟨y3, 1, none⟩) (fun hl => absurd hl n3) u1
 have g2 : L < y2 := by omega
 have g3 : L < y3 := by omega
 have l0 := h.line.set (k := 0) g2 (.string (str nm))
 have l1 := l0.set (k := 1) g2 (.int .i64 a)
 have l2 := l1.set (k := 2) g2 v
 have l3 := l2.set (k := 0) g3 u0
 have zl := l3.set (k := 1) g3 u1
 have t0 := KeepTy.setCell (t := 81) (p := ⟨y2, 0, none⟩) (NotTy.of h.b2 (by decide)) (.string (str nm))
 have t1 := KeepTy.setCell (t := 81) (p := ⟨y2, 1, none⟩) (NotTy.of p0 (by decide)) (.int .i64 a)
 have t2 := KeepTy.setCell (t := 81) (p := ⟨y2, 2, none⟩) (NotTy.of p1 (by decide)) v
 have t3 := KeepTy.setCell (t := 81) (p := ⟨y3, 0, none⟩) (NotTy.of q2 (by decide)) u0
 have t4 := KeepTy.setCell (t := 81) (p := ⟨y3, 1, none⟩) (NotTy.of q3 (by decide)) u1
 have tt := (((t0.trans t1).trans t2).trans t3).trans t4
 clear p0 p1 p2 p3 q0 q1 q2 q3 k0 k1 k2 k3 l0 l1 l2 l3 t0 t1 t2 t3 t4
 generalize ((((W.setCell ⟨y2, 0, none⟩ (.string (str nm))).setCell ⟨y2, 1, none⟩ (.int .i64 a)).setCell ⟨y2, 2, none⟩ v).setCell ⟨y3, 0, none⟩ u0).setCell ⟨y3, 1, none⟩ u1 = X at z1 z2 zk zl tt
 have zr : RowG sidR w.heap.size 81 X v sides := h.row.same (w' := X) (fun _ _ h => h) tt
 rintro _ (rfl | rfl)
 ·exact ⟨z1, z2, zk, zl, zr⟩
 ·exact ⟨z1, z2, zk.drew, zl.kb ((KB.refl (fun _ => False) _).drew) (fun _ h => h.elim), h.row.same (w' := X.drew) (fun _ _ h => h) (fun g cur hg => tt g cur hg)⟩
theorem InI.push {wz : World} {v' : Value} {x : SidP} (h : InI W0 w L lv toks e y2 y3 y4 W n nm a v sides) (hr : RowG sidR w.heap.size 81 wz v' (sides ++ [x])) (hb : Below w.heap.size W wz) (hk : ∀ u, u ≠ 81 → KeepTy u W wz) :
  InI W0 w L lv toks e y2 y3 y4 (wz.setCell ⟨y4, 2, none⟩ v') n nm a v' (sides ++ [x]) := by
 have hy4 : w.heap.size ≤ y4 := by have := h.h2; have := h.h3; have := h.h4; omega
 have h4 := hk _ (by decide) _ _ h.b4
 have k2 : ∀ u, u ≠ 79 → KeepTy u wz (wz.setCell ⟨y4, 2, none⟩ v') := fun u hu => KeepTy.setCell (p := ⟨y4, 2, none⟩) (NotTy.of h4 (Ne.symm hu)) _
 have hb2 := hb.setCell (p := ⟨y4, 2, none⟩) hy4 v'
 have h2 := h.h2; have h3 := h.h3; have h34 := h.h4
 exact ⟨h.line.under hb2 h.hL, h.kb.then_below hb2 (fun g h1 h2 => by omega), block_other (p := ⟨y4, 2, none⟩) (hk _ (by decide) _ _ h.b2) (show y4 ≠ y2 by omega) _, k2 _ (by decide) _ _ (hk _ (by decide) _ _ h.b3), set_block h4, hr.same (w' := wz.setCell ⟨y4, 2, none⟩ v') (fun _ _ h => h) (k2 _ (by decide)), h.hL, h.h2, h.h3, h.h4⟩
end
set_option maxHeartbeats 16000000 in
theorem input_any {W0 w : World} {L n : Nat} {lv : Value} {toks : List (Tk × Nat)} {e : Int} (h : LineI W0 L lv toks e w n) (htab : TabT W0) (h1 : 1 ≤ toks.length) :
  Calls Tryz.prog 36 #[.pointer (some ⟨L, 0, none⟩)] w (InpE W0 L lv toks e w (inputP VV (restT toks 1))) := by
 obtain ⟨R, hR⟩ : ∃ R, inputP VV (restT toks 1) = R := ⟨_, rfl⟩
 rw [hR]
 have hsm := h.small
 have hL := h.lt
 have lm := h.cells.2.1
 have fm := frozen_of_row _ L 1 _ _ h.box
 have h2 := ((h.setN 1 h1).alloc (.cells #[.string ⟨#[]⟩, .int .i64 0, .slice none 0 0] 79)).alloc (.cells #[.int .i64 0, .int .i64 0] 28)
 have HA := Lib.hid (at_any h2)
 have b2 := heap_alloc (World.alloc_heap_new (w.setCell ⟨L, 1, none⟩ (.int .i64 (1 : Nat))) (.cells #[.string ⟨#[]⟩, .int .i64 0, .slice none 0 0] 79)) (.cells #[.int .i64 0, .int .i64 0] 28)
 have b3 := World.alloc_heap_new ((w.setCell ⟨L, 1, none⟩ (.int .i64 (1 : Nat))).alloc (.cells #[.string ⟨#[]⟩, .int .i64 0, .slice none 0 0] 79)) (.cells #[.int .i64 0, .int .i64 0] 28)
 have hkb : KB (fun g => g = L) w (((w.setCell ⟨L, 1, none⟩ (.int .i64 (1 : Nat))).alloc (.cells #[.string ⟨#[]⟩, .int .i64 0, .slice none 0 0] 79)).alloc (.cells #[.int .i64 0, .int .i64 0] 28)) := (((KB.refl (fun g => g = L) w).setCell (p := ⟨L, 1, none⟩) (fun _ => rfl) _).alloc _).alloc _
 have s0 : (w.setCell ⟨L, 1, none⟩ (.int .i64 (1 : Nat))).heap.size = w.heap.size := by simp
 have s1 : ((w.setCell ⟨L, 1, none⟩ (.int .i64 (1 : Nat))).alloc (.cells #[.string ⟨#[]⟩, .int .i64 0, .slice none 0 0] 79)).heap.size = w.heap.size + 1 := by simp
 rw [s0] at b2
 rw [s1] at b3
 have H2 := Lib.hid (And.intro h2 (And.intro b2 (And.intro b3 hkb))); have HR := Lib.hid hR; have HTB := Lib.hid htab
 clear h hR htab h2 b2 b3 hkb s0 s1
 go_enter Tryz.func36, Tryz.ntmps36
 go_upto_region 2 with fail
 clear lm fm
 go_wp2_with fail
 refine HA.out.mono ?_
 rintro _ wa ⟨⟨a, rfl⟩, hba⟩
 dsimp only
 obtain ⟨h2, b2, b3, hkb⟩ := H2.out
 have h2 := h2.next hba
 have b2 := block_below b2 hba
 have b3 := block_below b3 hba
 have hkb := kbL_next hkb hba
 have hpk := peek_any h2
 obtain ⟨t, ht⟩ : ∃ t, headT (restT toks 1) = t := ⟨_, rfl⟩
 rw [ht] at hpk
 obtain ⟨tk, tw, tn⟩ := t
 unfold tkV at hpk
 dsimp only at hpk
 have HPK := Lib.hid hpk; have HT := Lib.hid ht; have H2 := Lib.hid (And.intro h2 (And.intro b2 (And.intro b3 hkb)))
 clear hpk ht h2 b2 b3 hkb hba HA
 go_wp2_with fail
 refine HPK.out.mono ?_
 rintro _ wb ⟨⟨a2, rfl⟩, hbb⟩
 dsimp only
 obtain ⟨h2, b2, b3, hkb⟩ := H2.out
 have h2 := h2.next hbb
 have b2 := block_below b2 hbb
 have b3 := block_below b3 hbb
 have hkb := kbL_next hkb hbb
 have hlt3 := block_lt b3
 have hin : InI W0 w L lv toks e w.heap.size (w.heap.size + 1) wb.heap.size (wb.alloc (.cells #[.string (str tw), .int .i64 a, .slice none 0 0] 79)) 1 tw a (.slice none 0 0) [] :=
  ⟨h2.alloc _, hkb.alloc _, heap_alloc b2 _, heap_alloc b3 _, World.alloc_heap_new _ _, RowG.nil _ _ _ _, hL, Nat.le_refl _, Nat.lt_succ_self _, hlt3⟩
 have HIN := Lib.hid hin
 clear h2 b2 b3 hkb hbb hin HPK H2 hlt3
 go_upto_region 3 with fail
 refine gen_worldA (fun W => InI W0 w L lv toks e w.heap.size (w.heap.size + 1) wb.heap.size W 1 tw a (.slice none 0 0) []) HIN.out ?_
 clear HIN
 generalize wb.heap.size = y4
 generalize w.heap.size + 1 = y3
 generalize w.heap.size = y2
 obtain ⟨v, hv⟩ : ∃ v : Value, Value.slice none 0 0 = v := ⟨_, rfl⟩
 obtain ⟨sides, hsd⟩ : ∃ s : List SidP, [] = s := ⟨_, rfl⟩
 rintro W hin
 rw [hv, hsd] at hin
 obtain ⟨la, lc, rfl⟩ := hin.line.form
 have lm := hin.line.cells.2.1
 have l0 := hin.line.cells.1
 have HIN := Lib.hid hin; have HV := Lib.hid hv; have HSD := Lib.hid hsd
 clear hin hv hsd
 by_cases hone : toks.length = 1
 ·have hRn : R = none := by rw [← HR.out, rest_nil (by omega)]; rfl
  have q1 : ((1 : Int) == (toks.length : Int)) = true := by rw [hone]; rfl
  clear hone
  go_quiet (fail)
  go_upto_region 4 with fail
  refine gen_worldA (fun W => InI W0 w L (.slice la toks.length lc) toks e y2 y3 y4 W 1 tw a v sides) (HIN.out.next (Below.drewN _ _)) ?_
  clear HIN lm l0
  rintro W hin
  have HIN := Lib.hid hin
  clear hin
  obtain ⟨va, vc, rfl⟩ := HIN.out.row.form
  have k0 := cell_of_row W y4 0 _ _ _ HIN.out.b4
  have k1 := cell_of_row W y4 1 _ _ _ HIN.out.b4
  have k2 := cell_of_row W y4 2 _ _ _ HIN.out.b4
  refine wp_region_Z (S := fun W' => W'.cell? ⟨y4, 0, none⟩ = some (.string (str tw)) ∧ W'.cell? ⟨y4, 1, none⟩ = some (.int .i64 a) ∧ W'.cell? ⟨y4, 2, none⟩ = some (.slice va sides.length vc)) (z := 5) (by kernel_rfl) ?_
  have hSS : (fun W' : World => W'.cell? ⟨y4, 0, none⟩ = some (.string (str tw)) ∧ W'.cell? ⟨y4, 1, none⟩ = some (.int .i64 a) ∧ W'.cell? ⟨y4, 2, none⟩ = some (.slice va sides.length vc)) W.drew := ⟨k0, k1, k2⟩
  clear k0 k1 k2
  refine wpAnyZ_take (i := 0) (v := ?_) rfl (by kernel_rfl) (by kernel_rfl) (by kernel_rfl) (fun _ _ _ h => h) (by kernel_rfl) (Or.inl ⟨by rfl, ?_⟩) (by assumption) ?_
  rotate_left
  ·intro w' hSw
   try dsimp only at hSw
   try obtain ⟨hSw, hSw2⟩ := hSw
   go_simp
   try with_reducible rfl
  show wpAnyZ _ _ _ _ _ _ _ _ (Act.put _ (some 25) _) _
  simp only [Act.put, List.setIfInBounds_toArray, List.set_cons_zero, List.set_cons_succ]
  refine wpAnyZ_take (i := 1) (v := ?_) rfl (by kernel_rfl) (by kernel_rfl) (by kernel_rfl) (fun _ _ _ h => h) (by kernel_rfl) (Or.inl ⟨by rfl, ?_⟩) (by assumption) ?_
  rotate_left
  ·intro w' hSw
   try dsimp only at hSw
   try obtain ⟨hSw, hSw2⟩ := hSw
   go_simp
   try with_reducible rfl
  show wpAnyZ _ _ _ _ _ _ _ _ (Act.put _ (some 26) _) _
  simp only [Act.put, List.setIfInBounds_toArray, List.set_cons_zero, List.set_cons_succ]
  clear hSS
  refine wpAnyZ_one (i := 2) (by kernel_rfl) rfl rfl (fun K hK => ?_)
  go_simp
  refine (fault_any (HIN.out.next (Below.refl W.heap.size W).drew).line 42).mono ?_
  rintro _ wf ⟨⟨fa, rfl⟩, hbf⟩
  have hin := (HIN.out.next (Below.refl W.heap.size W).drew).next hbf
  show K _ wf
  refine hK.out _ _ (.inr ⟨cell_of_row wf y4 0 _ _ _ hin.b4, cell_of_row wf y4 1 _ _ _ hin.b4, cell_of_row wf y4 2 _ _ _ hin.b4⟩) ?_
  have c20 := cell_of_row wf y2 0 _ _ _ hin.b2
  have c21 := cell_of_row wf y2 1 _ _ _ hin.b2
  have c22 := cell_of_row wf y2 2 _ _ _ hin.b2
  have f20 := frozen_of_row wf y2 0 _ _ hin.b2
  have f21 := frozen_of_row wf y2 1 _ _ hin.b2
  have f22 := frozen_of_row wf y2 2 _ _ hin.b2
  have c30 := cell_of_row wf y3 0 _ _ _ hin.b3
  have c31 := cell_of_row wf y3 1 _ _ _ hin.b3
  have f30 := frozen_of_row wf y3 0 _ _ hin.b3
  have f31 := frozen_of_row wf y3 1 _ _ hin.b3
  have hy23 := hin.h3
  have HIN := Lib.hid hin
  clear hK hin hbf
  have hy24 : ∀ k, (⟨y2, k, none⟩ : Addr).block ≠ y4 := fun k => by have := HIN.out.h3; have := HIN.out.h4; show y2 ≠ y4; omega
  have hy34 : ∀ k, (⟨y3, k, none⟩ : Addr).block ≠ y4 := fun k => by have := HIN.out.h4; show y3 ≠ y4; omega
  have g0 := block_other HIN.out.b4 (hy24 0) (.string (str tw))
  have g1 := block_other g0 (hy24 1) (.int .i64 a)
  have g2 := block_other g1 (hy24 2) (.slice va sides.length vc)
  have g3 := block_other g2 (hy34 0) (.int .i64 fa)
  have g4 := block_other g3 (hy34 1) (.int .i64 42)
  have G2 := Lib.hid g2; have G4 := Lib.hid g4
  clear g0 g1 g2 g3 g4
  refine wpAnyZ_one (i := 3) (by kernel_rfl) rfl rfl (fun K hK => ?_)
  go_simp
  refine hK.out _ _ (.inr ⟨cell_of_row _ y4 0 _ _ _ G2.out, cell_of_row _ y4 1 _ _ _ G2.out, cell_of_row _ y4 2 _ _ _ G2.out⟩) ?_
  clear hK
  refine wpAnyZ_one (i := 4) (by kernel_rfl) rfl rfl (fun K hK => ?_)
  go_simp
  refine hK.out _ _ (.inr ⟨cell_of_row _ y4 0 _ _ _ G4.out, cell_of_row _ y4 1 _ _ _ G4.out, cell_of_row _ y4 2 _ _ _ G4.out⟩) ?_
  clear hK
  refine wpAnyZ_done (by kernel_rfl) ?_ _
  go_wp2_with fail
  obtain ⟨z1, z2, z3, z4, z5⟩ := HIN.out.end _ _ _ (.inl rfl)
  exact bodyPost_ret (results_input y2 y3 rfl rfl z1 (by kernel_rfl) z2 (by kernel_rfl)) rfl ⟨z3, ⟨tw, sides⟩, a, _, _, _, 1, rfl, z4, z5, by first | rfl | (rw [hRn]; rfl)⟩
  all_goals skip
 ·have hlt : 1 < toks.length := by omega
  have hrc := hd_cons HT.out hlt
  have q1 : ((1 : Int) == (toks.length : Int)) = false := by rw [beq_eq_false_iff_ne]; omega
  go_quiet (fail)
  go_upto_region 5 with fail
  refine gen_worldA (fun W => InI W0 w L (.slice la toks.length lc) toks e y2 y3 y4 W 1 tw a v sides) (HIN.out.next (Below.drewN _ _)) ?_
  clear HIN lm l0
  rintro W hin
  have k0 := cell_of_row W y4 0 _ _ _ hin.b4
  have hshort := hin.line.short HT.out
  have hpk := peek_any hin.line
  rw [HT.out] at hpk
  unfold tkV at hpk
  dsimp only at hpk
  have hR2 := HR.out
  rw [hrc] at hR2
  unfold inputP at hR2
  dsimp only at hR2
  have hb4 := block_lt hin.b4
  have HPK := Lib.hid hpk; have HIN := Lib.hid hin; have HR2 := Lib.hid hR2
  clear hpk hin hR2 HR hrc
  by_cases hk1 : tk = 1
  ·subst hk1
   have hnm := fun (W' : World) (hb : Below W.heap.size W W') => Name_any tw W' (TabT.below (TabT.below HTB.out (HIN.out.line.size ▸ HIN.out.line.below)) hb) hshort
   have HNM := Lib.hid hnm
   clear hnm
   cases hnv : nameW tw with
   | false =>
    rw [hnv] at HNM
    have hRn : R = none := by rw [← HR2.out, if_pos (.inr hnv)]
    go_upto_region 6 with (first
     | (go_at_call 34; refine HPK.out.mono ?_; rintro _ wc ⟨⟨a3, rfl⟩, hbc⟩; have k0c := cell_of_row wc y4 0 _ _ _ (block_below HIN.out.b4 hbc); have HBC := Lib.hid hbc; clear hbc)
     | (go_at_call 37; refine (HNM.out _ HBC.out).mono ?_; rintro e wn ⟨rfl, hbn⟩; have HBN := Lib.hid (bNext hbn HBC.out); clear hbn))
    refine gen_worldA (fun W => InI W0 w L (.slice la toks.length lc) toks e y2 y3 y4 W 1 tw a v sides) (HIN.out.next HBN.out) ?_
    clear HIN k0 k0c hb4 HPK HBC HBN HNM
    rintro W hin
    have HIN := Lib.hid hin
    clear hin
    obtain ⟨va, vc, rfl⟩ := HIN.out.row.form
    have k0 := cell_of_row W y4 0 _ _ _ HIN.out.b4
    have k1 := cell_of_row W y4 1 _ _ _ HIN.out.b4
    have k2 := cell_of_row W y4 2 _ _ _ HIN.out.b4
    refine wp_region_Z (S := fun W' => W'.cell? ⟨y4, 0, none⟩ = some (.string (str tw)) ∧ W'.cell? ⟨y4, 1, none⟩ = some (.int .i64 a) ∧ W'.cell? ⟨y4, 2, none⟩ = some (.slice va sides.length vc)) (z := 5) (by kernel_rfl) ?_
    have hSS : (fun W' : World => W'.cell? ⟨y4, 0, none⟩ = some (.string (str tw)) ∧ W'.cell? ⟨y4, 1, none⟩ = some (.int .i64 a) ∧ W'.cell? ⟨y4, 2, none⟩ = some (.slice va sides.length vc)) W.drew := ⟨k0, k1, k2⟩
    clear k0 k1 k2
    refine wpAnyZ_take (i := 0) (v := ?_) rfl (by kernel_rfl) (by kernel_rfl) (by kernel_rfl) (fun _ _ _ h => h) (by kernel_rfl) (Or.inl ⟨by rfl, ?_⟩) (by assumption) ?_
    rotate_left
    ·intro w' hSw
     try dsimp only at hSw
     try obtain ⟨hSw, hSw2⟩ := hSw
     go_simp
     try with_reducible rfl
    show wpAnyZ _ _ _ _ _ _ _ _ (Act.put _ (some 38) _) _
    simp only [Act.put, List.setIfInBounds_toArray, List.set_cons_zero, List.set_cons_succ]
    refine wpAnyZ_take (i := 1) (v := ?_) rfl (by kernel_rfl) (by kernel_rfl) (by kernel_rfl) (fun _ _ _ h => h) (by kernel_rfl) (Or.inl ⟨by rfl, ?_⟩) (by assumption) ?_
    rotate_left
    ·intro w' hSw
     try dsimp only at hSw
     try obtain ⟨hSw, hSw2⟩ := hSw
     go_simp
     try with_reducible rfl
    show wpAnyZ _ _ _ _ _ _ _ _ (Act.put _ (some 39) _) _
    simp only [Act.put, List.setIfInBounds_toArray, List.set_cons_zero, List.set_cons_succ]
    clear hSS
    refine wpAnyZ_one (i := 2) (by kernel_rfl) rfl rfl (fun K hK => ?_)
    go_simp
    refine (fault_any (HIN.out.next (Below.refl W.heap.size W).drew).line 41).mono ?_
    rintro _ wf ⟨⟨fa, rfl⟩, hbf⟩
    have hin := (HIN.out.next (Below.refl W.heap.size W).drew).next hbf
    show K _ wf
    refine hK.out _ _ (.inr ⟨cell_of_row wf y4 0 _ _ _ hin.b4, cell_of_row wf y4 1 _ _ _ hin.b4, cell_of_row wf y4 2 _ _ _ hin.b4⟩) ?_
    have c20 := cell_of_row wf y2 0 _ _ _ hin.b2
    have c21 := cell_of_row wf y2 1 _ _ _ hin.b2
    have c22 := cell_of_row wf y2 2 _ _ _ hin.b2
    have f20 := frozen_of_row wf y2 0 _ _ hin.b2
    have f21 := frozen_of_row wf y2 1 _ _ hin.b2
    have f22 := frozen_of_row wf y2 2 _ _ hin.b2
    have c30 := cell_of_row wf y3 0 _ _ _ hin.b3
    have c31 := cell_of_row wf y3 1 _ _ _ hin.b3
    have f30 := frozen_of_row wf y3 0 _ _ hin.b3
    have f31 := frozen_of_row wf y3 1 _ _ hin.b3
    have hy23 := hin.h3
    have HIN := Lib.hid hin
    clear hK hin hbf
    have hy24 : ∀ k, (⟨y2, k, none⟩ : Addr).block ≠ y4 := fun k => by have := HIN.out.h3; have := HIN.out.h4; show y2 ≠ y4; omega
    have hy34 : ∀ k, (⟨y3, k, none⟩ : Addr).block ≠ y4 := fun k => by have := HIN.out.h4; show y3 ≠ y4; omega
    have g0 := block_other HIN.out.b4 (hy24 0) (.string (str tw))
    have g1 := block_other g0 (hy24 1) (.int .i64 a)
    have g2 := block_other g1 (hy24 2) (.slice va sides.length vc)
    have g3 := block_other g2 (hy34 0) (.int .i64 fa)
    have g4 := block_other g3 (hy34 1) (.int .i64 41)
    have G2 := Lib.hid g2; have G4 := Lib.hid g4
    clear g0 g1 g2 g3 g4
    refine wpAnyZ_one (i := 3) (by kernel_rfl) rfl rfl (fun K hK => ?_)
    go_simp
    refine hK.out _ _ (.inr ⟨cell_of_row _ y4 0 _ _ _ G2.out, cell_of_row _ y4 1 _ _ _ G2.out, cell_of_row _ y4 2 _ _ _ G2.out⟩) ?_
    clear hK
    refine wpAnyZ_one (i := 4) (by kernel_rfl) rfl rfl (fun K hK => ?_)
    go_simp
    refine hK.out _ _ (.inr ⟨cell_of_row _ y4 0 _ _ _ G4.out, cell_of_row _ y4 1 _ _ _ G4.out, cell_of_row _ y4 2 _ _ _ G4.out⟩) ?_
    clear hK
    refine wpAnyZ_done (by kernel_rfl) ?_ _
    go_wp2_with fail
    obtain ⟨z1, z2, z3, z4, z5⟩ := HIN.out.end _ _ _ (.inl rfl)
    exact bodyPost_ret (results_input y2 y3 rfl rfl z1 (by kernel_rfl) z2 (by kernel_rfl)) rfl ⟨z3, ⟨tw, sides⟩, a, _, _, _, 1, rfl, z4, z5, by first | rfl | (rw [hRn]; rfl)⟩
    all_goals skip
   | true =>
    rw [hnv] at HNM
    have hR3 := HR2.out
    rw [if_neg (by rintro (h | h); exact h rfl; rw [show VV.name tw = true from hnv] at h; cases h)] at hR3
    have HR3 := Lib.hid hR3
    clear hR3 HR2
    go_upto_region 7 with (first
     | (go_at_call 34; refine HPK.out.mono ?_; rintro _ wc ⟨⟨a3, rfl⟩, hbc⟩; have k0c := cell_of_row wc y4 0 _ _ _ (block_below HIN.out.b4 hbc); have HBC := Lib.hid hbc; clear hbc)
     | (go_at_call 37; refine (HNM.out _ HBC.out).mono ?_; rintro e wn ⟨rfl, hbn⟩; have HBN := Lib.hid (bNext hbn HBC.out); clear hbn))
    refine gen_worldA (fun W => InI W0 w L (.slice la toks.length lc) toks e y2 y3 y4 W 1 tw a v sides) (HIN.out.next HBN.out) ?_
    clear HIN k0 k0c hb4 HPK HBC HBN HNM
    rintro W hin
    have lm := hin.line.cells.2.1
    have fm := frozen_of_row W L 1 _ _ hin.line.box
    have HIN := Lib.hid (hin.setN 2 (by omega))
    clear hin
    go_wp2_with fail
    refine gen_worldA (fun W => InI W0 w L (.slice la toks.length lc) toks e y2 y3 y4 W 2 tw a v sides) HIN.out ?_
    clear HIN lm fm
    rintro W hin
    have HIN := Lib.hid hin
    have hsd0 := HSD.out
    clear hin
    go_loopw [] (fun wr => ∃ (m : Nat) (v : Value) (sides : List SidP), InI W0 w L (.slice la toks.length lc) toks e y2 y3 y4 wr m tw a v sides ∧ sides.length ≤ 4 ∧ (sidesP VV (restT toks m) sides).map (fun s => (⟨tw, s⟩ : InpP)) = R) (fun wr => toks.length - (Lib.intOf ((wr.cell? ⟨L, 1, none⟩).getD undef)).toNat)
    case atStart => exact ⟨2, v, sides, HIN.out, by rw [← hsd0]; decide, by rw [← hsd0]; exact HR3.out⟩
    case round =>
     clear HIN HV HSD hsd0 HR3
     obtain ⟨m, v, sides, hin, hs4, hmap⟩ := hrel
     have hmn := hin.line.hn
     have l0 := hin.line.cells.1
     have lm := hin.line.cells.2.1
     have HM1 := Lib.hid lm
     have HIN := Lib.hid hin; have HMAP := Lib.hid hmap
     clear hin hmap
     by_cases hml : m < toks.length
     ·have q : decide ((m : Int) < (toks.length : Int)) = true := decide_eq_true (by omega)
      go_upto_region 8 with fail
      go_quiet (fail)
      go_upto_region 10 with fail
      refine gen_worldA (fun W => InI W0 w L (.slice la toks.length lc) toks e y2 y3 y4 W m tw a v sides) (HIN.out.next (Below.drewN _ _)) ?_
      clear HIN lm l0
      rintro W hin
      obtain ⟨t2, ht2⟩ : ∃ t2, headT (restT toks m) = t2 := ⟨_, rfl⟩
      have hrc := hd_cons ht2 hml
      have hshort2 := hin.line.short ht2
      have hpk := peek_any hin.line
      rw [ht2] at hpk
      obtain ⟨uk, uw, un⟩ := t2
      unfold tkV at hpk
      dsimp only at hpk hshort2
      have hmap2 := HMAP.out
      rw [hrc, sidesP] at hmap2
      dsimp only at hmap2
      have HPK := Lib.hid hpk; have HIN := Lib.hid hin; have HMAP2 := Lib.hid hmap2
      clear hpk hin hmap2 HMAP hrc ht2
      go_wp2_with fail
      refine HPK.out.mono ?_
      rintro _ wc ⟨⟨a5, rfl⟩, hbc⟩
      have hin := (HIN.out.next hbc).alloc (.cells #[.int .i64 uk, .int .i64 a5, .string (str uw), .int .i64 un] 39)
      have hy5 := World.alloc_heap_new wc (.cells #[.int .i64 uk, .int .i64 a5, .string (str uw), .int .i64 un] 39)
      have H5 := Lib.hid (And.intro hin hy5)
      clear hin hy5 hbc HIN HPK
      dsimp only
      go_upto_region 11 with fail
      refine gen_worldA (fun W => InI W0 w L (.slice la toks.length lc) toks e y2 y3 y4 W m tw a v sides ∧ W.heap[wc.heap.size]? = _) H5.out ?_
      clear H5
      generalize wc.heap.size = y5
      clear wc W
      rintro W ⟨hin, hy5⟩
      have c50 := cell_of_row W y5 0 _ _ _ hy5
      have c52 := cell_of_row W y5 2 _ _ _ hy5
      have hnm := fun (W' : World) (hb : Below W.heap.size W W') => Name_any uw W' (TabT.below (TabT.below HTB.out (hin.line.size ▸ hin.line.below)) hb) hshort2
      have HNM := Lib.hid (hnm W (Below.refl _ _)); have HIN := Lib.hid hin; have HY5 := Lib.hid hy5
      clear hin hy5 hnm
      by_cases hok : uk = 2 ∨ (uk = 1 ∧ nameW uw = true)
      ·rw [if_neg (by rintro ⟨h1, h2⟩; rcases hok with h | ⟨h, h'⟩; exact h1 h; rcases h2 with h2 | h2; exact h2 h; rw [show VV.name uw = true from h'] at h2; cases h2)] at HMAP2
       have hq : (uk == 2) = true ∨ ((uk == 2) = false ∧ (uk == 1) = true ∧ nameW uw = true) := by
        by_cases h2 : uk = 2
        ·exact .inl (by rw [h2]; rfl)
        ·refine .inr ⟨by rw [beq_eq_false_iff_ne]; exact h2, ?_⟩
         rcases hok with h | ⟨h, h'⟩
         ·exact absurd h h2
         ·exact ⟨by rw [h]; rfl, h'⟩
       obtain ⟨va, vc, rfl⟩ := HIN.out.row.form
       have k2 := cell_of_row W y4 2 _ _ _ HIN.out.b4
       by_cases h4 : sides.length = 4
       ·rw [if_pos h4] at HMAP2
        have hRn : R = none := HMAP2.out.symm
        have q4 : ((sides.length : Int) == 4) = true := by rw [h4]; rfl
        clear h4 HMAP2
        rcases hq with hq | ⟨hq, hq1, hq2⟩
        ·have p2 : (uk != 2) = false := by simpa using hq
         go_upto_region 14 with fail
         refine gen_worldA (fun W => ∃ v, InI W0 w L (.slice la toks.length lc) toks e y2 y3 y4 W m tw a v sides) ⟨_, HIN.out⟩ ?_
         clear HIN c50 c52 HNM HY5 k2
         rintro W ⟨v, hin⟩
         have HIN := Lib.hid hin
         clear hin
         obtain ⟨va, vc, rfl⟩ := HIN.out.row.form
         have k0 := cell_of_row W y4 0 _ _ _ HIN.out.b4
         have k1 := cell_of_row W y4 1 _ _ _ HIN.out.b4
         have k2 := cell_of_row W y4 2 _ _ _ HIN.out.b4
         refine wp_region_Z (S := fun W' => W'.cell? ⟨y4, 0, none⟩ = some (.string (str tw)) ∧ W'.cell? ⟨y4, 1, none⟩ = some (.int .i64 a) ∧ W'.cell? ⟨y4, 2, none⟩ = some (.slice va sides.length vc)) (z := 5) (by kernel_rfl) ?_
         have hSS : (fun W' : World => W'.cell? ⟨y4, 0, none⟩ = some (.string (str tw)) ∧ W'.cell? ⟨y4, 1, none⟩ = some (.int .i64 a) ∧ W'.cell? ⟨y4, 2, none⟩ = some (.slice va sides.length vc)) W.drew := ⟨k0, k1, k2⟩
         clear k0 k1 k2
         refine wpAnyZ_take (i := 0) (v := ?_) rfl (by kernel_rfl) (by kernel_rfl) (by kernel_rfl) (fun _ _ _ h => h) (by kernel_rfl) (Or.inl ⟨by rfl, ?_⟩) (by assumption) ?_
         rotate_left
         ·intro w' hSw
          try dsimp only at hSw
          try obtain ⟨hSw, hSw2⟩ := hSw
          go_simp
          try with_reducible rfl
         show wpAnyZ _ _ _ _ _ _ _ _ (Act.put _ (some 84) _) _
         simp only [Act.put, List.setIfInBounds_toArray, List.set_cons_zero, List.set_cons_succ]
         refine wpAnyZ_take (i := 1) (v := ?_) rfl (by kernel_rfl) (by kernel_rfl) (by kernel_rfl) (fun _ _ _ h => h) (by kernel_rfl) (Or.inl ⟨by rfl, ?_⟩) (by assumption) ?_
         rotate_left
         ·intro w' hSw
          try dsimp only at hSw
          try obtain ⟨hSw, hSw2⟩ := hSw
          go_simp
          try with_reducible rfl
         show wpAnyZ _ _ _ _ _ _ _ _ (Act.put _ (some 85) _) _
         simp only [Act.put, List.setIfInBounds_toArray, List.set_cons_zero, List.set_cons_succ]
         clear hSS
         refine wpAnyZ_one (i := 2) (by kernel_rfl) rfl rfl (fun K hK => ?_)
         go_simp
         refine (fault_any (HIN.out.next (Below.refl W.heap.size W).drew).line 45).mono ?_
         rintro _ wf ⟨⟨fa, rfl⟩, hbf⟩
         have hin := (HIN.out.next (Below.refl W.heap.size W).drew).next hbf
         show K _ wf
         refine hK.out _ _ (.inr ⟨cell_of_row wf y4 0 _ _ _ hin.b4, cell_of_row wf y4 1 _ _ _ hin.b4, cell_of_row wf y4 2 _ _ _ hin.b4⟩) ?_
         have c20 := cell_of_row wf y2 0 _ _ _ hin.b2
         have c21 := cell_of_row wf y2 1 _ _ _ hin.b2
         have c22 := cell_of_row wf y2 2 _ _ _ hin.b2
         have f20 := frozen_of_row wf y2 0 _ _ hin.b2
         have f21 := frozen_of_row wf y2 1 _ _ hin.b2
         have f22 := frozen_of_row wf y2 2 _ _ hin.b2
         have c30 := cell_of_row wf y3 0 _ _ _ hin.b3
         have c31 := cell_of_row wf y3 1 _ _ _ hin.b3
         have f30 := frozen_of_row wf y3 0 _ _ hin.b3
         have f31 := frozen_of_row wf y3 1 _ _ hin.b3
         have hy23 := hin.h3
         have HIN := Lib.hid hin
         clear hK hin hbf
         have hy24 : ∀ k, (⟨y2, k, none⟩ : Addr).block ≠ y4 := fun k => by have := HIN.out.h3; have := HIN.out.h4; show y2 ≠ y4; omega
         have hy34 : ∀ k, (⟨y3, k, none⟩ : Addr).block ≠ y4 := fun k => by have := HIN.out.h4; show y3 ≠ y4; omega
         have g0 := block_other HIN.out.b4 (hy24 0) (.string (str tw))
         have g1 := block_other g0 (hy24 1) (.int .i64 a)
         have g2 := block_other g1 (hy24 2) (.slice va sides.length vc)
         have g3 := block_other g2 (hy34 0) (.int .i64 fa)
         have g4 := block_other g3 (hy34 1) (.int .i64 45)
         have G2 := Lib.hid g2; have G4 := Lib.hid g4
         clear g0 g1 g2 g3 g4
         refine wpAnyZ_one (i := 3) (by kernel_rfl) rfl rfl (fun K hK => ?_)
         go_simp
         refine hK.out _ _ (.inr ⟨cell_of_row _ y4 0 _ _ _ G2.out, cell_of_row _ y4 1 _ _ _ G2.out, cell_of_row _ y4 2 _ _ _ G2.out⟩) ?_
         clear hK
         refine wpAnyZ_one (i := 4) (by kernel_rfl) rfl rfl (fun K hK => ?_)
         go_simp
         refine hK.out _ _ (.inr ⟨cell_of_row _ y4 0 _ _ _ G4.out, cell_of_row _ y4 1 _ _ _ G4.out, cell_of_row _ y4 2 _ _ _ G4.out⟩) ?_
         clear hK
         refine wpAnyZ_done (by kernel_rfl) ?_ _
         go_wp2_with fail
         obtain ⟨z1, z2, z3, z4, z5⟩ := HIN.out.end _ _ _ (.inl rfl)
         exact bodyPost_ret (results_input y2 y3 rfl rfl z1 (by kernel_rfl) z2 (by kernel_rfl)) rfl ⟨z3, ⟨tw, sides⟩, a, _, _, _, m, rfl, z4, z5, by first | rfl | (rw [hRn]; rfl)⟩
         all_goals skip
        ·have p2 : (uk != 2) = true := by simpa using hq
         have p1 : (uk != 1) = false := by simpa using hq1
         rw [hq2] at HNM
         go_upto_region 14 with (go_at_call 37; refine HNM.out.mono ?_; rintro e wn ⟨rfl, hbn⟩; have k2n := cell_of_row wn y4 2 _ _ _ (block_below HIN.out.b4 hbn); have HBN := Lib.hid hbn; clear hbn)
         refine gen_worldA (fun W => ∃ v, InI W0 w L (.slice la toks.length lc) toks e y2 y3 y4 W m tw a v sides) ⟨_, HIN.out.next HBN.out⟩ ?_
         clear HIN c50 c52 HNM HBN HY5 k2 k2n
         rintro W ⟨v, hin⟩
         have HIN := Lib.hid hin
         clear hin
         obtain ⟨va, vc, rfl⟩ := HIN.out.row.form
         have k0 := cell_of_row W y4 0 _ _ _ HIN.out.b4
         have k1 := cell_of_row W y4 1 _ _ _ HIN.out.b4
         have k2 := cell_of_row W y4 2 _ _ _ HIN.out.b4
         refine wp_region_Z (S := fun W' => W'.cell? ⟨y4, 0, none⟩ = some (.string (str tw)) ∧ W'.cell? ⟨y4, 1, none⟩ = some (.int .i64 a) ∧ W'.cell? ⟨y4, 2, none⟩ = some (.slice va sides.length vc)) (z := 5) (by kernel_rfl) ?_
         have hSS : (fun W' : World => W'.cell? ⟨y4, 0, none⟩ = some (.string (str tw)) ∧ W'.cell? ⟨y4, 1, none⟩ = some (.int .i64 a) ∧ W'.cell? ⟨y4, 2, none⟩ = some (.slice va sides.length vc)) W.drew := ⟨k0, k1, k2⟩
         clear k0 k1 k2
         refine wpAnyZ_take (i := 0) (v := ?_) rfl (by kernel_rfl) (by kernel_rfl) (by kernel_rfl) (fun _ _ _ h => h) (by kernel_rfl) (Or.inl ⟨by rfl, ?_⟩) (by assumption) ?_
         rotate_left
         ·intro w' hSw
          try dsimp only at hSw
          try obtain ⟨hSw, hSw2⟩ := hSw
          go_simp
          try with_reducible rfl
         show wpAnyZ _ _ _ _ _ _ _ _ (Act.put _ (some 84) _) _
         simp only [Act.put, List.setIfInBounds_toArray, List.set_cons_zero, List.set_cons_succ]
         refine wpAnyZ_take (i := 1) (v := ?_) rfl (by kernel_rfl) (by kernel_rfl) (by kernel_rfl) (fun _ _ _ h => h) (by kernel_rfl) (Or.inl ⟨by rfl, ?_⟩) (by assumption) ?_
         rotate_left
         ·intro w' hSw
          try dsimp only at hSw
          try obtain ⟨hSw, hSw2⟩ := hSw
          go_simp
          try with_reducible rfl
         show wpAnyZ _ _ _ _ _ _ _ _ (Act.put _ (some 85) _) _
         simp only [Act.put, List.setIfInBounds_toArray, List.set_cons_zero, List.set_cons_succ]
         clear hSS
         refine wpAnyZ_one (i := 2) (by kernel_rfl) rfl rfl (fun K hK => ?_)
         go_simp
         refine (fault_any (HIN.out.next (Below.refl W.heap.size W).drew).line 45).mono ?_
         rintro _ wf ⟨⟨fa, rfl⟩, hbf⟩
         have hin := (HIN.out.next (Below.refl W.heap.size W).drew).next hbf
         show K _ wf
         refine hK.out _ _ (.inr ⟨cell_of_row wf y4 0 _ _ _ hin.b4, cell_of_row wf y4 1 _ _ _ hin.b4, cell_of_row wf y4 2 _ _ _ hin.b4⟩) ?_
         have c20 := cell_of_row wf y2 0 _ _ _ hin.b2
         have c21 := cell_of_row wf y2 1 _ _ _ hin.b2
         have c22 := cell_of_row wf y2 2 _ _ _ hin.b2
         have f20 := frozen_of_row wf y2 0 _ _ hin.b2
         have f21 := frozen_of_row wf y2 1 _ _ hin.b2
         have f22 := frozen_of_row wf y2 2 _ _ hin.b2
         have c30 := cell_of_row wf y3 0 _ _ _ hin.b3
         have c31 := cell_of_row wf y3 1 _ _ _ hin.b3
         have f30 := frozen_of_row wf y3 0 _ _ hin.b3
         have f31 := frozen_of_row wf y3 1 _ _ hin.b3
         have hy23 := hin.h3
         have HIN := Lib.hid hin
         clear hK hin hbf
         have hy24 : ∀ k, (⟨y2, k, none⟩ : Addr).block ≠ y4 := fun k => by have := HIN.out.h3; have := HIN.out.h4; show y2 ≠ y4; omega
         have hy34 : ∀ k, (⟨y3, k, none⟩ : Addr).block ≠ y4 := fun k => by have := HIN.out.h4; show y3 ≠ y4; omega
         have g0 := block_other HIN.out.b4 (hy24 0) (.string (str tw))
         have g1 := block_other g0 (hy24 1) (.int .i64 a)
         have g2 := block_other g1 (hy24 2) (.slice va sides.length vc)
         have g3 := block_other g2 (hy34 0) (.int .i64 fa)
         have g4 := block_other g3 (hy34 1) (.int .i64 45)
         have G2 := Lib.hid g2; have G4 := Lib.hid g4
         clear g0 g1 g2 g3 g4
         refine wpAnyZ_one (i := 3) (by kernel_rfl) rfl rfl (fun K hK => ?_)
         go_simp
         refine hK.out _ _ (.inr ⟨cell_of_row _ y4 0 _ _ _ G2.out, cell_of_row _ y4 1 _ _ _ G2.out, cell_of_row _ y4 2 _ _ _ G2.out⟩) ?_
         clear hK
         refine wpAnyZ_one (i := 4) (by kernel_rfl) rfl rfl (fun K hK => ?_)
         go_simp
         refine hK.out _ _ (.inr ⟨cell_of_row _ y4 0 _ _ _ G4.out, cell_of_row _ y4 1 _ _ _ G4.out, cell_of_row _ y4 2 _ _ _ G4.out⟩) ?_
         clear hK
         refine wpAnyZ_done (by kernel_rfl) ?_ _
         go_wp2_with fail
         obtain ⟨z1, z2, z3, z4, z5⟩ := HIN.out.end _ _ _ (.inl rfl)
         exact bodyPost_ret (results_input y2 y3 rfl rfl z1 (by kernel_rfl) z2 (by kernel_rfl)) rfl ⟨z3, ⟨tw, sides⟩, a, _, _, _, m, rfl, z4, z5, by first | rfl | (rw [hRn]; rfl)⟩
         all_goals skip
       ·rw [if_neg h4] at HMAP2
        have q4 : ((sides.length : Int) == 4) = false := by rw [beq_eq_false_iff_ne]; omega
        rcases hq with hq | ⟨hq, hq1, hq2⟩
        ·have p2 : (uk != 2) = false := by simpa using hq
         go_upto_region 15 with fail
         refine gen_worldA (fun W => InI W0 w L (.slice la toks.length lc) toks e y2 y3 y4 W m tw a (.slice va sides.length vc) sides ∧ W.heap[y5]? = _) ⟨HIN.out, HY5.out⟩ ?_
         clear HIN c50 c52 HNM HY5 k2
         rintro W ⟨hin, hy5⟩
         have k2 := cell_of_row W y4 2 _ _ _ hin.b4
         have c52 := cell_of_row W y5 2 _ _ _ hy5
         have c53 := cell_of_row W y5 3 _ _ _ hy5
         have hin2 := hin.alloc (.cells #[.string (str uw), .int .i64 un] 81)
         have hG := World.alloc_heap_new W (.cells #[.string (str uw), .int .i64 un] 81)
         have hM : w.heap.size ≤ (W.alloc (.cells #[.string (str uw), .int .i64 un] 81)).heap.size := hin2.kb.size
         have hb4 := block_lt hin.b4
         have HIN2 := Lib.hid hin2; have HGG := Lib.hid hG; have HMM := Lib.hid hM
         clear hin hy5 hin2 hG hM
         go_upto_region 9 with (at_builtin; (refine wpList_pushN rfl _ _ 77 81 rfl (.agg #[.string ⟨#[]⟩, .int .i64 0]) 24 Tryz.underlying77 (by kernel_rfl) (by rfl) (show 0 < 2 by decide) w.heap.size w.heap.size W.heap.size (keep_sid _) _ sides (SidP.mk uw un) _ rfl HIN2.out.row rfl HGG.out ⟨rfl, trivial⟩ (by unfold maxLen; omega) (by omega) (Nat.le_refl _) HMM.out ?_); intro v' wz hrz hbz hgz hkz hnz; obtain ⟨za, zc, hz⟩ := hrz.form; rw [List.length_append, List.length_singleton] at hz; subst hz; have h4z := hkz 79 (by decide) _ _ HIN2.out.b4; have c4z := cell_of_row wz y4 2 _ _ _ h4z; have f4z := frozen_of_row wz y4 2 _ _ h4z; have HRZ := Lib.hid hrz; have HBZ := Lib.hid hbz; have HKZ := Lib.hid hkz; clear hrz hbz hgz hkz hnz h4z)
         have hin3 := HIN2.out.push HRZ.out HBZ.out HKZ.out
         refine gen_worldA (fun W => InI W0 w L (.slice la toks.length lc) toks e y2 y3 y4 W m tw a _ (sides ++ [SidP.mk uw un])) hin3 ?_
         clear hin3 HIN2 HGG HMM HRZ HBZ HKZ k2 c52 c53 c4z f4z
         rintro W hin
         have lm := hin.line.cells.2.1
         have fm := frozen_of_row W L 1 _ _ hin.line.box
         have hin4 := hin.setN (m + 1) (by omega)
         have HCN : Hid ((W.setCell ⟨L, 1, none⟩ (.int .i64 ((m : Int) + 1))).cell? ⟨L, 1, none⟩ = some (.int .i64 ((m : Int) + 1))) := Lib.hid hin4.line.cells.2.1
         have HIN4 := Lib.hid hin4
         clear hin hin4
         go_wp2_with fail
         go_roundw
         case rel => exact ⟨m + 1, _, sides ++ [SidP.mk uw un], HIN4.out, by simp; omega, HMAP2.out⟩
         case measure => rw [HM1.out, HCN.out]; simp [Lib.intOf]; omega
         all_goals skip
        ·have p2 : (uk != 2) = true := by simpa using hq
         have p1 : (uk != 1) = false := by simpa using hq1
         rw [hq2] at HNM
         go_upto_region 15 with (go_at_call 37; refine HNM.out.mono ?_; rintro e wn ⟨rfl, hbn⟩; have k2n := cell_of_row wn y4 2 _ _ _ (block_below HIN.out.b4 hbn); have HBN := Lib.hid hbn; clear hbn)
         refine gen_worldA (fun W => InI W0 w L (.slice la toks.length lc) toks e y2 y3 y4 W m tw a (.slice va sides.length vc) sides ∧ W.heap[y5]? = _) ⟨HIN.out.next HBN.out, block_below HY5.out HBN.out⟩ ?_
         clear HIN c50 c52 HNM HBN HY5 k2 k2n
         rintro W ⟨hin, hy5⟩
         have k2 := cell_of_row W y4 2 _ _ _ hin.b4
         have c52 := cell_of_row W y5 2 _ _ _ hy5
         have c53 := cell_of_row W y5 3 _ _ _ hy5
         have hin2 := hin.alloc (.cells #[.string (str uw), .int .i64 un] 81)
         have hG := World.alloc_heap_new W (.cells #[.string (str uw), .int .i64 un] 81)
         have hM : w.heap.size ≤ (W.alloc (.cells #[.string (str uw), .int .i64 un] 81)).heap.size := hin2.kb.size
         have hb4 := block_lt hin.b4
         have HIN2 := Lib.hid hin2; have HGG := Lib.hid hG; have HMM := Lib.hid hM
         clear hin hy5 hin2 hG hM
         go_upto_region 9 with (at_builtin; (refine wpList_pushN rfl _ _ 77 81 rfl (.agg #[.string ⟨#[]⟩, .int .i64 0]) 24 Tryz.underlying77 (by kernel_rfl) (by rfl) (show 0 < 2 by decide) w.heap.size w.heap.size W.heap.size (keep_sid _) _ sides (SidP.mk uw un) _ rfl HIN2.out.row rfl HGG.out ⟨rfl, trivial⟩ (by unfold maxLen; omega) (by omega) (Nat.le_refl _) HMM.out ?_); intro v' wz hrz hbz hgz hkz hnz; obtain ⟨za, zc, hz⟩ := hrz.form; rw [List.length_append, List.length_singleton] at hz; subst hz; have h4z := hkz 79 (by decide) _ _ HIN2.out.b4; have c4z := cell_of_row wz y4 2 _ _ _ h4z; have f4z := frozen_of_row wz y4 2 _ _ h4z; have HRZ := Lib.hid hrz; have HBZ := Lib.hid hbz; have HKZ := Lib.hid hkz; clear hrz hbz hgz hkz hnz h4z)
         have hin3 := HIN2.out.push HRZ.out HBZ.out HKZ.out
         refine gen_worldA (fun W => InI W0 w L (.slice la toks.length lc) toks e y2 y3 y4 W m tw a _ (sides ++ [SidP.mk uw un])) hin3 ?_
         clear hin3 HIN2 HGG HMM HRZ HBZ HKZ k2 c52 c53 c4z f4z
         rintro W hin
         have lm := hin.line.cells.2.1
         have fm := frozen_of_row W L 1 _ _ hin.line.box
         have hin4 := hin.setN (m + 1) (by omega)
         have HCN : Hid ((W.setCell ⟨L, 1, none⟩ (.int .i64 ((m : Int) + 1))).cell? ⟨L, 1, none⟩ = some (.int .i64 ((m : Int) + 1))) := Lib.hid hin4.line.cells.2.1
         have HIN4 := Lib.hid hin4
         clear hin hin4
         go_wp2_with fail
         go_roundw
         case rel => exact ⟨m + 1, _, sides ++ [SidP.mk uw un], HIN4.out, by simp; omega, HMAP2.out⟩
         case measure => rw [HM1.out, HCN.out]; simp [Lib.intOf]; omega
         all_goals skip
      ·have hRn : R = none := by
        rw [← HMAP2.out, if_pos]
        ·rfl
        ·refine ⟨fun h => hok (.inl h), ?_⟩
         by_cases h1 : uk = 1
         ·refine .inr ?_
          cases hx : nameW uw with
          | false => exact hx
          | true => exact absurd (.inr ⟨h1, hx⟩) hok
         ·exact .inl h1
       have p2 : (uk != 2) = true := by simpa using fun h => hok (.inl h)
       by_cases h1 : uk = 1
       ·have p1 : (uk != 1) = false := by rw [h1]; rfl
        have hnf : nameW uw = false := by
         cases hx : nameW uw with
         | false => rfl
         | true => exact absurd (.inr ⟨h1, hx⟩) hok
        rw [hnf] at HNM
        go_upto_region 12 with (go_at_call 37; refine HNM.out.mono ?_; rintro e wn ⟨rfl, hbn⟩; have HBN := Lib.hid hbn; clear hbn)
        refine gen_worldA (fun W => InI W0 w L (.slice la toks.length lc) toks e y2 y3 y4 W m tw a v sides) (HIN.out.next HBN.out) ?_
        clear HIN c50 c52 HNM HBN HY5
        rintro W hin
        have HIN := Lib.hid hin
        clear hin
        obtain ⟨va, vc, rfl⟩ := HIN.out.row.form
        have k0 := cell_of_row W y4 0 _ _ _ HIN.out.b4
        have k1 := cell_of_row W y4 1 _ _ _ HIN.out.b4
        have k2 := cell_of_row W y4 2 _ _ _ HIN.out.b4
        refine wp_region_Z (S := fun W' => W'.cell? ⟨y4, 0, none⟩ = some (.string (str tw)) ∧ W'.cell? ⟨y4, 1, none⟩ = some (.int .i64 a) ∧ W'.cell? ⟨y4, 2, none⟩ = some (.slice va sides.length vc)) (z := 5) (by kernel_rfl) ?_
        have hSS : (fun W' : World => W'.cell? ⟨y4, 0, none⟩ = some (.string (str tw)) ∧ W'.cell? ⟨y4, 1, none⟩ = some (.int .i64 a) ∧ W'.cell? ⟨y4, 2, none⟩ = some (.slice va sides.length vc)) W.drew := ⟨k0, k1, k2⟩
        clear k0 k1 k2
        refine wpAnyZ_take (i := 0) (v := ?_) rfl (by kernel_rfl) (by kernel_rfl) (by kernel_rfl) (fun _ _ _ h => h) (by kernel_rfl) (Or.inl ⟨by rfl, ?_⟩) (by assumption) ?_
        rotate_left
        ·intro w' hSw
         try dsimp only at hSw
         try obtain ⟨hSw, hSw2⟩ := hSw
         go_simp
         try with_reducible rfl
        show wpAnyZ _ _ _ _ _ _ _ _ (Act.put _ (some 77) _) _
        simp only [Act.put, List.setIfInBounds_toArray, List.set_cons_zero, List.set_cons_succ]
        refine wpAnyZ_take (i := 1) (v := ?_) rfl (by kernel_rfl) (by kernel_rfl) (by kernel_rfl) (fun _ _ _ h => h) (by kernel_rfl) (Or.inl ⟨by rfl, ?_⟩) (by assumption) ?_
        rotate_left
        ·intro w' hSw
         try dsimp only at hSw
         try obtain ⟨hSw, hSw2⟩ := hSw
         go_simp
         try with_reducible rfl
        show wpAnyZ _ _ _ _ _ _ _ _ (Act.put _ (some 78) _) _
        simp only [Act.put, List.setIfInBounds_toArray, List.set_cons_zero, List.set_cons_succ]
        clear hSS
        refine wpAnyZ_one (i := 2) (by kernel_rfl) rfl rfl (fun K hK => ?_)
        go_simp
        refine (fault_any (HIN.out.next (Below.refl W.heap.size W).drew).line 41).mono ?_
        rintro _ wf ⟨⟨fa, rfl⟩, hbf⟩
        have hin := (HIN.out.next (Below.refl W.heap.size W).drew).next hbf
        show K _ wf
        refine hK.out _ _ (.inr ⟨cell_of_row wf y4 0 _ _ _ hin.b4, cell_of_row wf y4 1 _ _ _ hin.b4, cell_of_row wf y4 2 _ _ _ hin.b4⟩) ?_
        have c20 := cell_of_row wf y2 0 _ _ _ hin.b2
        have c21 := cell_of_row wf y2 1 _ _ _ hin.b2
        have c22 := cell_of_row wf y2 2 _ _ _ hin.b2
        have f20 := frozen_of_row wf y2 0 _ _ hin.b2
        have f21 := frozen_of_row wf y2 1 _ _ hin.b2
        have f22 := frozen_of_row wf y2 2 _ _ hin.b2
        have c30 := cell_of_row wf y3 0 _ _ _ hin.b3
        have c31 := cell_of_row wf y3 1 _ _ _ hin.b3
        have f30 := frozen_of_row wf y3 0 _ _ hin.b3
        have f31 := frozen_of_row wf y3 1 _ _ hin.b3
        have hy23 := hin.h3
        have HIN := Lib.hid hin
        clear hK hin hbf
        have hy24 : ∀ k, (⟨y2, k, none⟩ : Addr).block ≠ y4 := fun k => by have := HIN.out.h3; have := HIN.out.h4; show y2 ≠ y4; omega
        have hy34 : ∀ k, (⟨y3, k, none⟩ : Addr).block ≠ y4 := fun k => by have := HIN.out.h4; show y3 ≠ y4; omega
        have g0 := block_other HIN.out.b4 (hy24 0) (.string (str tw))
        have g1 := block_other g0 (hy24 1) (.int .i64 a)
        have g2 := block_other g1 (hy24 2) (.slice va sides.length vc)
        have g3 := block_other g2 (hy34 0) (.int .i64 fa)
        have g4 := block_other g3 (hy34 1) (.int .i64 41)
        have G2 := Lib.hid g2; have G4 := Lib.hid g4
        clear g0 g1 g2 g3 g4
        refine wpAnyZ_one (i := 3) (by kernel_rfl) rfl rfl (fun K hK => ?_)
        go_simp
        refine hK.out _ _ (.inr ⟨cell_of_row _ y4 0 _ _ _ G2.out, cell_of_row _ y4 1 _ _ _ G2.out, cell_of_row _ y4 2 _ _ _ G2.out⟩) ?_
        clear hK
        refine wpAnyZ_one (i := 4) (by kernel_rfl) rfl rfl (fun K hK => ?_)
        go_simp
        refine hK.out _ _ (.inr ⟨cell_of_row _ y4 0 _ _ _ G4.out, cell_of_row _ y4 1 _ _ _ G4.out, cell_of_row _ y4 2 _ _ _ G4.out⟩) ?_
        clear hK
        refine wpAnyZ_done (by kernel_rfl) ?_ _
        go_wp2_with fail
        obtain ⟨z1, z2, z3, z4, z5⟩ := HIN.out.end _ _ _ (.inl rfl)
        exact bodyPost_ret (results_input y2 y3 rfl rfl z1 (by kernel_rfl) z2 (by kernel_rfl)) rfl ⟨z3, ⟨tw, sides⟩, a, _, _, _, m, rfl, z4, z5, by first | rfl | (rw [hRn]; rfl)⟩
        all_goals skip
       ·have p1 : (uk != 1) = true := by simpa using h1
        go_upto_region 12 with fail
        refine gen_worldA (fun W => InI W0 w L (.slice la toks.length lc) toks e y2 y3 y4 W m tw a v sides) HIN.out ?_
        clear HIN c50 c52 HNM HY5
        rintro W hin
        have HIN := Lib.hid hin
        clear hin
        obtain ⟨va, vc, rfl⟩ := HIN.out.row.form
        have k0 := cell_of_row W y4 0 _ _ _ HIN.out.b4
        have k1 := cell_of_row W y4 1 _ _ _ HIN.out.b4
        have k2 := cell_of_row W y4 2 _ _ _ HIN.out.b4
        refine wp_region_Z (S := fun W' => W'.cell? ⟨y4, 0, none⟩ = some (.string (str tw)) ∧ W'.cell? ⟨y4, 1, none⟩ = some (.int .i64 a) ∧ W'.cell? ⟨y4, 2, none⟩ = some (.slice va sides.length vc)) (z := 5) (by kernel_rfl) ?_
        have hSS : (fun W' : World => W'.cell? ⟨y4, 0, none⟩ = some (.string (str tw)) ∧ W'.cell? ⟨y4, 1, none⟩ = some (.int .i64 a) ∧ W'.cell? ⟨y4, 2, none⟩ = some (.slice va sides.length vc)) W.drew := ⟨k0, k1, k2⟩
        clear k0 k1 k2
        refine wpAnyZ_take (i := 0) (v := ?_) rfl (by kernel_rfl) (by kernel_rfl) (by kernel_rfl) (fun _ _ _ h => h) (by kernel_rfl) (Or.inl ⟨by rfl, ?_⟩) (by assumption) ?_
        rotate_left
        ·intro w' hSw
         try dsimp only at hSw
         try obtain ⟨hSw, hSw2⟩ := hSw
         go_simp
         try with_reducible rfl
        show wpAnyZ _ _ _ _ _ _ _ _ (Act.put _ (some 77) _) _
        simp only [Act.put, List.setIfInBounds_toArray, List.set_cons_zero, List.set_cons_succ]
        refine wpAnyZ_take (i := 1) (v := ?_) rfl (by kernel_rfl) (by kernel_rfl) (by kernel_rfl) (fun _ _ _ h => h) (by kernel_rfl) (Or.inl ⟨by rfl, ?_⟩) (by assumption) ?_
        rotate_left
        ·intro w' hSw
         try dsimp only at hSw
         try obtain ⟨hSw, hSw2⟩ := hSw
         go_simp
         try with_reducible rfl
        show wpAnyZ _ _ _ _ _ _ _ _ (Act.put _ (some 78) _) _
        simp only [Act.put, List.setIfInBounds_toArray, List.set_cons_zero, List.set_cons_succ]
        clear hSS
        refine wpAnyZ_one (i := 2) (by kernel_rfl) rfl rfl (fun K hK => ?_)
        go_simp
        refine (fault_any (HIN.out.next (Below.refl W.heap.size W).drew).line 41).mono ?_
        rintro _ wf ⟨⟨fa, rfl⟩, hbf⟩
        have hin := (HIN.out.next (Below.refl W.heap.size W).drew).next hbf
        show K _ wf
        refine hK.out _ _ (.inr ⟨cell_of_row wf y4 0 _ _ _ hin.b4, cell_of_row wf y4 1 _ _ _ hin.b4, cell_of_row wf y4 2 _ _ _ hin.b4⟩) ?_
        have c20 := cell_of_row wf y2 0 _ _ _ hin.b2
        have c21 := cell_of_row wf y2 1 _ _ _ hin.b2
        have c22 := cell_of_row wf y2 2 _ _ _ hin.b2
        have f20 := frozen_of_row wf y2 0 _ _ hin.b2
        have f21 := frozen_of_row wf y2 1 _ _ hin.b2
        have f22 := frozen_of_row wf y2 2 _ _ hin.b2
        have c30 := cell_of_row wf y3 0 _ _ _ hin.b3
        have c31 := cell_of_row wf y3 1 _ _ _ hin.b3
        have f30 := frozen_of_row wf y3 0 _ _ hin.b3
        have f31 := frozen_of_row wf y3 1 _ _ hin.b3
        have hy23 := hin.h3
        have HIN := Lib.hid hin
        clear hK hin hbf
        have hy24 : ∀ k, (⟨y2, k, none⟩ : Addr).block ≠ y4 := fun k => by have := HIN.out.h3; have := HIN.out.h4; show y2 ≠ y4; omega
        have hy34 : ∀ k, (⟨y3, k, none⟩ : Addr).block ≠ y4 := fun k => by have := HIN.out.h4; show y3 ≠ y4; omega
        have g0 := block_other HIN.out.b4 (hy24 0) (.string (str tw))
        have g1 := block_other g0 (hy24 1) (.int .i64 a)
        have g2 := block_other g1 (hy24 2) (.slice va sides.length vc)
        have g3 := block_other g2 (hy34 0) (.int .i64 fa)
        have g4 := block_other g3 (hy34 1) (.int .i64 41)
        have G2 := Lib.hid g2; have G4 := Lib.hid g4
        clear g0 g1 g2 g3 g4
        refine wpAnyZ_one (i := 3) (by kernel_rfl) rfl rfl (fun K hK => ?_)
        go_simp
        refine hK.out _ _ (.inr ⟨cell_of_row _ y4 0 _ _ _ G2.out, cell_of_row _ y4 1 _ _ _ G2.out, cell_of_row _ y4 2 _ _ _ G2.out⟩) ?_
        clear hK
        refine wpAnyZ_one (i := 4) (by kernel_rfl) rfl rfl (fun K hK => ?_)
        go_simp
        refine hK.out _ _ (.inr ⟨cell_of_row _ y4 0 _ _ _ G4.out, cell_of_row _ y4 1 _ _ _ G4.out, cell_of_row _ y4 2 _ _ _ G4.out⟩) ?_
        clear hK
        refine wpAnyZ_done (by kernel_rfl) ?_ _
        go_wp2_with fail
        obtain ⟨z1, z2, z3, z4, z5⟩ := HIN.out.end _ _ _ (.inl rfl)
        exact bodyPost_ret (results_input y2 y3 rfl rfl z1 (by kernel_rfl) z2 (by kernel_rfl)) rfl ⟨z3, ⟨tw, sides⟩, a, _, _, _, m, rfl, z4, z5, by first | rfl | (rw [hRn]; rfl)⟩
        all_goals skip
     ·have q : decide ((m : Int) < (toks.length : Int)) = false := decide_eq_false (by omega)
      rw [rest_nil hml] at HMAP
      have hRs : R = some ⟨tw, sides⟩ := HMAP.out.symm
      go_upto_region 8 with fail
      go_quiet (fail)
      go_upto_region 16 with fail
      refine gen_worldA (fun W => InI W0 w L (.slice la toks.length lc) toks e y2 y3 y4 W m tw a v sides) (HIN.out.next (Below.drewN _ _)) ?_
      clear HIN lm l0
      rintro W hin
      obtain ⟨va, vc, rfl⟩ := hin.row.form
      have k0 := cell_of_row W y4 0 _ _ _ hin.b4
      have k1 := cell_of_row W y4 1 _ _ _ hin.b4
      have k2 := cell_of_row W y4 2 _ _ _ hin.b4
      have c20 := cell_of_row W y2 0 _ _ _ hin.b2
      have c21 := cell_of_row W y2 1 _ _ _ hin.b2
      have c22 := cell_of_row W y2 2 _ _ _ hin.b2
      have f20 := frozen_of_row W y2 0 _ _ hin.b2
      have f21 := frozen_of_row W y2 1 _ _ hin.b2
      have f22 := frozen_of_row W y2 2 _ _ hin.b2
      have c30 := cell_of_row W y3 0 _ _ _ hin.b3
      have c31 := cell_of_row W y3 1 _ _ _ hin.b3
      have f30 := frozen_of_row W y3 0 _ _ hin.b3
      have f31 := frozen_of_row W y3 1 _ _ hin.b3
      have hy23 := hin.h3
      have HIN := Lib.hid hin
      clear hin HMAP
      go_wp2_with fail
      obtain ⟨z1, z2, z3, z4, z5⟩ := HIN.out.end _ _ _ (.inl rfl)
      exact bodyPost_ret (results_input y2 y3 rfl rfl z1 (by kernel_rfl) z2 (by kernel_rfl)) rfl ⟨z3, ⟨tw, sides⟩, a, _, _, _, m, rfl, z4, z5, by first | exact ⟨rfl, rfl, rfl⟩ | (rw [hRs]; exact ⟨rfl, rfl, rfl⟩)⟩
  ·have q : (tk == 1) = false := by rw [beq_eq_false_iff_ne]; exact hk1
   have q2 : (tk != 1) = true := by simpa using hk1
   have hRn : R = none := by rw [← HR2.out, if_pos (.inl hk1)]
   go_upto_region 6 with (go_at_call 34; refine HPK.out.mono ?_; rintro _ wc ⟨⟨a3, rfl⟩, hbc⟩; have HBC := Lib.hid hbc; clear hbc)
   refine gen_worldA (fun W => InI W0 w L (.slice la toks.length lc) toks e y2 y3 y4 W 1 tw a v sides) (HIN.out.next HBC.out) ?_
   clear HIN k0 hb4 HPK HBC
   rintro W hin
   have HIN := Lib.hid hin
   clear hin
   obtain ⟨va, vc, rfl⟩ := HIN.out.row.form
   have k0 := cell_of_row W y4 0 _ _ _ HIN.out.b4
   have k1 := cell_of_row W y4 1 _ _ _ HIN.out.b4
   have k2 := cell_of_row W y4 2 _ _ _ HIN.out.b4
   refine wp_region_Z (S := fun W' => W'.cell? ⟨y4, 0, none⟩ = some (.string (str tw)) ∧ W'.cell? ⟨y4, 1, none⟩ = some (.int .i64 a) ∧ W'.cell? ⟨y4, 2, none⟩ = some (.slice va sides.length vc)) (z := 5) (by kernel_rfl) ?_
   have hSS : (fun W' : World => W'.cell? ⟨y4, 0, none⟩ = some (.string (str tw)) ∧ W'.cell? ⟨y4, 1, none⟩ = some (.int .i64 a) ∧ W'.cell? ⟨y4, 2, none⟩ = some (.slice va sides.length vc)) W.drew := ⟨k0, k1, k2⟩
   clear k0 k1 k2
   refine wpAnyZ_take (i := 0) (v := ?_) rfl (by kernel_rfl) (by kernel_rfl) (by kernel_rfl) (fun _ _ _ h => h) (by kernel_rfl) (Or.inl ⟨by rfl, ?_⟩) (by assumption) ?_
   rotate_left
   ·intro w' hSw
    try dsimp only at hSw
    try obtain ⟨hSw, hSw2⟩ := hSw
    go_simp
    try with_reducible rfl
   show wpAnyZ _ _ _ _ _ _ _ _ (Act.put _ (some 38) _) _
   simp only [Act.put, List.setIfInBounds_toArray, List.set_cons_zero, List.set_cons_succ]
   refine wpAnyZ_take (i := 1) (v := ?_) rfl (by kernel_rfl) (by kernel_rfl) (by kernel_rfl) (fun _ _ _ h => h) (by kernel_rfl) (Or.inl ⟨by rfl, ?_⟩) (by assumption) ?_
   rotate_left
   ·intro w' hSw
    try dsimp only at hSw
    try obtain ⟨hSw, hSw2⟩ := hSw
    go_simp
    try with_reducible rfl
   show wpAnyZ _ _ _ _ _ _ _ _ (Act.put _ (some 39) _) _
   simp only [Act.put, List.setIfInBounds_toArray, List.set_cons_zero, List.set_cons_succ]
   clear hSS
   refine wpAnyZ_one (i := 2) (by kernel_rfl) rfl rfl (fun K hK => ?_)
   go_simp
   refine (fault_any (HIN.out.next (Below.refl W.heap.size W).drew).line 41).mono ?_
   rintro _ wf ⟨⟨fa, rfl⟩, hbf⟩
   have hin := (HIN.out.next (Below.refl W.heap.size W).drew).next hbf
   show K _ wf
   refine hK.out _ _ (.inr ⟨cell_of_row wf y4 0 _ _ _ hin.b4, cell_of_row wf y4 1 _ _ _ hin.b4, cell_of_row wf y4 2 _ _ _ hin.b4⟩) ?_
   have c20 := cell_of_row wf y2 0 _ _ _ hin.b2
   have c21 := cell_of_row wf y2 1 _ _ _ hin.b2
   have c22 := cell_of_row wf y2 2 _ _ _ hin.b2
   have f20 := frozen_of_row wf y2 0 _ _ hin.b2
   have f21 := frozen_of_row wf y2 1 _ _ hin.b2
   have f22 := frozen_of_row wf y2 2 _ _ hin.b2
   have c30 := cell_of_row wf y3 0 _ _ _ hin.b3
   have c31 := cell_of_row wf y3 1 _ _ _ hin.b3
   have f30 := frozen_of_row wf y3 0 _ _ hin.b3
   have f31 := frozen_of_row wf y3 1 _ _ hin.b3
   have hy23 := hin.h3
   have HIN := Lib.hid hin
   clear hK hin hbf
   have hy24 : ∀ k, (⟨y2, k, none⟩ : Addr).block ≠ y4 := fun k => by have := HIN.out.h3; have := HIN.out.h4; show y2 ≠ y4; omega
   have hy34 : ∀ k, (⟨y3, k, none⟩ : Addr).block ≠ y4 := fun k => by have := HIN.out.h4; show y3 ≠ y4; omega
   have g0 := block_other HIN.out.b4 (hy24 0) (.string (str tw))
   have g1 := block_other g0 (hy24 1) (.int .i64 a)
   have g2 := block_other g1 (hy24 2) (.slice va sides.length vc)
   have g3 := block_other g2 (hy34 0) (.int .i64 fa)
   have g4 := block_other g3 (hy34 1) (.int .i64 41)
   have G2 := Lib.hid g2; have G4 := Lib.hid g4
   clear g0 g1 g2 g3 g4
   refine wpAnyZ_one (i := 3) (by kernel_rfl) rfl rfl (fun K hK => ?_)
   go_simp
   refine hK.out _ _ (.inr ⟨cell_of_row _ y4 0 _ _ _ G2.out, cell_of_row _ y4 1 _ _ _ G2.out, cell_of_row _ y4 2 _ _ _ G2.out⟩) ?_
   clear hK
   refine wpAnyZ_one (i := 4) (by kernel_rfl) rfl rfl (fun K hK => ?_)
   go_simp
   refine hK.out _ _ (.inr ⟨cell_of_row _ y4 0 _ _ _ G4.out, cell_of_row _ y4 1 _ _ _ G4.out, cell_of_row _ y4 2 _ _ _ G4.out⟩) ?_
   clear hK
   refine wpAnyZ_done (by kernel_rfl) ?_ _
   go_wp2_with fail
   obtain ⟨z1, z2, z3, z4, z5⟩ := HIN.out.end _ _ _ (.inl rfl)
   exact bodyPost_ret (results_input y2 y3 rfl rfl z1 (by kernel_rfl) z2 (by kernel_rfl)) rfl ⟨z3, ⟨tw, sides⟩, a, _, _, _, 1, rfl, z4, z5, by first | rfl | (rw [hRn]; rfl)⟩
   all_goals skip
end Go.Proofs.YtokghjnkfabgiaaGreatDoor
