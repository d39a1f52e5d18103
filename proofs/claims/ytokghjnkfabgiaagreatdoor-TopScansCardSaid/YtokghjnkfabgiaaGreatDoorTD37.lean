import Derived.Test.YtokghjnkfabgiaaGreatDoorTD36
import Derived.Test.YtokghjnkfabgiaaGreatDoorTD8
import Derived.Deep.DeepCutAuto
import Derived.Deep.CutBlock
set_option linter.unusedVariables false
set_option linter.unusedSimpArgs false
set_option maxRecDepth 100000
namespace Go.Proofs.YtokghjnkfabgiaaGreatDoor
open Go.RowKit Go.Lib
attribute [local go_sem] str_size str_get str_toList run_neq_nilFunc run_neq_func field_tok0 field_tok2 field_tok3

def ExprE (W0 : World) (L : Nat) (lv : Value) (toks : List (Tk × Nat)) (e : Int) (w : World) (R : Option (List Itm)) (r : Ending) (w' : World) : Prop := KB (fun g => g = L) w w' ∧ ∃ v fa fx n', r = .returned (.tuple #[v, .agg #[.int .i64 fa, .int .i64 fx]]) ∧ LineI W0 L lv toks e w' n' ∧
 match R with
 | some l => fa = 0 ∧ fx = 0 ∧ RowG itmR w.heap.size 121 w' v l
 | none => (fx == 0) = false ∧ v = .slice none 0 0
theorem results_expr {tmps : Array Value} {w : World} (g : Nat) {cs : Array Value} {x : Value}
  (hq : tmps.getD 2 undef = x) (hp : tmps.getD 3 undef = .pointer (some ⟨g, 0, none⟩)) (hg : w.heap[g]? = some (.cells cs 28 (0, 0))) (hs : (Tryz.prog.info? 28).map (·.size) = some cs.size) :
  (results Tryz.f38 tmps).run Tryz.prog w = .ok (.tuple #[x, .agg cs]) w := by
 have hp' : tmps[3]?.getD undef = .pointer (some ⟨g, 0, none⟩) := by simpa using hp
 have hq' : tmps[2]?.getD undef = x := by simpa using hq
 have h : Tryz.f38.results = #[.tmp 2, .cell 3 28] := by rfl
 simp [results, h, hp', hq', asAddr, run_loadVar_row w g 28 28 cs (0, 0) _ hg Tryz.underlying28 rfl hs]
def FB (y : Nat) (w : World) : Prop := w.heap[y]? = some (.cells #[.int .i64 0, .int .i64 0] 28 (0, 0))
theorem es_new {W0 w0 : World} {L n : Nat} {lv : Value} {toks : List (Tk × Nat)} {e : Int} (h : LineI W0 L lv toks e w0 n) : ∀ W, W = (((w0.alloc (.cells #[.pointer (some ⟨L, 0, none⟩)] 60)).alloc (.cells #[.int .i64 0, .int .i64 0] 28)).alloc (.cells #[.slice none 0 0] 65)).alloc (.cells #[.slice none 0 0] 135) →
  ES W0 w0 L lv toks e w0.heap.size (w0.heap.size + 1 + 1) (w0.heap.size + 1 + 1 + 1) W n [] [] ∧ FB (w0.heap.size + 1) W := by
 rintro _ rfl
 have a0 := World.alloc_heap_new w0 (.cells #[.pointer (some ⟨L, 0, none⟩)] 60)
 obtain ⟨w1, hw1⟩ : ∃ w1, w0.alloc (.cells #[.pointer (some ⟨L, 0, none⟩)] 60) = w1 := ⟨_, rfl⟩
 have s1 : w1.heap.size = w0.heap.size + 1 := by rw [← hw1]; simp
 have l1 := h.alloc (.cells #[.pointer (some ⟨L, 0, none⟩)] 60)
 have k1 : KB (fun g => g = L) w0 w1 := hw1 ▸ (KB.refl (fun g => g = L) w0).alloc _
 rw [hw1] at a0 l1 ⊢
 have b0 := World.alloc_heap_new w1 (.cells #[.int .i64 0, .int .i64 0] 28)
 have a1 := heap_alloc a0 (.cells #[.int .i64 0, .int .i64 0] 28)
 have l2 := l1.alloc (.cells #[.int .i64 0, .int .i64 0] 28)
 have k2 := k1.alloc (.cells #[.int .i64 0, .int .i64 0] 28)
 have s2 : (w1.alloc (.cells #[.int .i64 0, .int .i64 0] 28)).heap.size = w0.heap.size + 2 := by simp; omega
 rw [s1] at b0
 generalize w1.alloc (.cells #[.int .i64 0, .int .i64 0] 28) = w2 at *
 have c0 := World.alloc_heap_new w2 (.cells #[.slice none 0 0] 65)
 have a2 := heap_alloc a1 (.cells #[.slice none 0 0] 65)
 have b1 := heap_alloc b0 (.cells #[.slice none 0 0] 65)
 have l3 := l2.alloc (.cells #[.slice none 0 0] 65)
 have k3 := k2.alloc (.cells #[.slice none 0 0] 65)
 have s3 : (w2.alloc (.cells #[.slice none 0 0] 65)).heap.size = w0.heap.size + 3 := by simp; omega
 rw [s2] at c0
 generalize w2.alloc (.cells #[.slice none 0 0] 65) = w3 at *
 have d0 := World.alloc_heap_new w3 (.cells #[.slice none 0 0] 135)
 rw [s3] at d0
 refine ⟨⟨l3.alloc _, k3.alloc _, heap_alloc a2 _, Nat.le_refl _, by omega, by omega, h.lt, ⟨.slice none 0 0, .slice none 0 0, [], ⟨heap_alloc c0 _, RowG.nil _ _ _ _⟩, d0, World.ownsRow_nil _ _ _ _, trivial⟩, Nat.zero_le _⟩, heap_alloc b1 _⟩
theorem FB.keep {y : Nat} {w w' : World} (h : FB y w) (hk : KeepTy 28 w w') : FB y w' := hk _ _ h
theorem fb_set {W0 w0 W : World} {L Bl Bo Bt n y3 : Nat} {lv : Value} {toks : List (Tk × Nat)} {e : Int} {out : List Itm} {todo : List (Option Itm)} (h : ES W0 w0 L lv toks e Bl Bo Bt W n out todo) (hf : FB y3 W) (hy : w0.heap.size ≤ y3) (u0 u1 : Value) :
  ∀ W', (W' = (W.setCell ⟨y3, 0, none⟩ u0).setCell ⟨y3, 1, none⟩ u1 ∨ W' = ((W.setCell ⟨y3, 0, none⟩ u0).setCell ⟨y3, 1, none⟩ u1).drew ∨ (∃ o, W' = (((W.setCell ⟨y3, 0, none⟩ u0).setCell ⟨y3, 1, none⟩ u1).alloc o).drew) ∨ ∃ o, W' = ((W.setCell ⟨y3, 0, none⟩ u0).setCell ⟨y3, 1, none⟩ u1).alloc o) → W'.heap[y3]? = some (.cells #[u0, u1] 28 (0, 0)) ∧ KB (fun g => g = L) w0 W' ∧ LineI W0 L lv toks e W' n ∧ ∀ u, u ≠ 28 → KeepTy u W W' := by
 have e2 : (((#[.int .i64 0, .int .i64 0] : Array Value).setIfInBounds 0 u0).setIfInBounds 1 u1) = #[u0, u1] := by simp
 have p0 := set_block (k := 0) (v := u0) hf
 have p1 := set_block (k := 1) (v := u1) p0
 rw [e2] at p1
 have hL := h.hL
 have hn : ¬ y3 < w0.heap.size := by omega
 have k0 := h.kb.setCell (p := ⟨y3, 0, none⟩) (fun hl => absurd hl hn) u0
 have k1 := k0.setCell (p := ⟨y3, 1, none⟩) (fun hl => absurd hl hn) u1
 have l0 := h.line.set (k := 0) (show L < y3 by omega) u0
 have l1 := l0.set (k := 1) (show L < y3 by omega) u1
 clear p0 k0 l0
 have kt : ∀ u, u ≠ 28 → KeepTy u W ((W.setCell ⟨y3, 0, none⟩ u0).setCell ⟨y3, 1, none⟩ u1) := fun u hu => (KeepTy.setCell (p := ⟨y3, 0, none⟩) (NotTy.of hf (Ne.symm hu)) _).trans (KeepTy.setCell (p := ⟨y3, 1, none⟩) (NotTy.of (set_block hf) (Ne.symm hu)) _)
 generalize (W.setCell ⟨y3, 0, none⟩ u0).setCell ⟨y3, 1, none⟩ u1 = X at p1 k1 l1 kt
 have pa : ∀ o, (X.alloc o).heap[y3]? = some (.cells #[u0, u1] 28 (0, 0)) := fun o => heap_alloc p1 o
 have ka : ∀ o, KB (fun g => g = L) w0 (X.alloc o) := fun o => k1.alloc o
 have la : ∀ o, LineI W0 L lv toks e (X.alloc o) n := fun o => l1.alloc o
 rintro _ (rfl | rfl | ⟨o, rfl⟩ | ⟨o, rfl⟩)
 ·exact ⟨p1, k1, l1, kt⟩
 ·exact ⟨p1, k1.drew, l1.kb ((KB.refl (fun _ => False) _).drew) (fun _ h => h.elim), kt⟩
 ·have p2 := pa o; have k2 := ka o; have l2 := la o
  have k3 : ∀ u, KeepTy u X (X.alloc o) := fun u => KeepTy.below ((Below.refl _ _).alloc (Nat.le_refl _) o)
  generalize X.alloc o = Y at *
  exact ⟨p2, k2.drew, l2.kb ((KB.refl (fun _ => False) _).drew) (fun _ h => h.elim), fun u hu => (kt u hu).trans (k3 u)⟩
 ·exact ⟨pa o, ka o, la o, fun u hu => (kt u hu).trans (KeepTy.below ((Below.refl _ _).alloc (Nat.le_refl _) o))⟩
theorem head_lt {toks : List (Tk × Nat)} {n : Nat} {t : Tk} (h : headT (restT toks n) = t) (ht : t.kind ≠ 4) : n < toks.length := Nat.lt_of_not_le fun hle => by
 rw [rest_nil (by omega)] at h
 exact ht (congrArg Tk.kind h.symm)
theorem head_cons {toks : List (Tk × Nat)} {n : Nat} {t : Tk} (h : headT (restT toks n) = t) (hn : n < toks.length) : restT toks n = t :: restT toks (n + 1) := by
 rw [rest_cons hn] at h ⊢
 rw [show toks[n].1 = t from h]
set_option maxHeartbeats 16000000 in
theorem expr_any {W0 w0 : World} {L n : Nat} {lv : Value} {toks : List (Tk × Nat)} {e : Int} (h : LineI W0 L lv toks e w0 n) (htab : TabT W0) :
  Calls Tryz.prog 38 #[.pointer (some ⟨L, 0, none⟩)] w0 (ExprE W0 L lv toks e w0 (exprP VV (restT toks n))) := by
 obtain ⟨R, hR⟩ : ∃ R, exprP VV (restT toks n) = R := ⟨_, rfl⟩
 rw [hR]
 have hR : exprC true ⟨restT toks n, [], [], 0⟩ = R := hR
 have hsm := h.small
 have H := Lib.hid h; have HR := Lib.hid hR; have HTB := Lib.hid htab
 clear h hR htab
 go_enter Tryz.func38, Tryz.ntmps38
 go_wp2_with fail
 refine gen_worldA (fun W => ES W0 w0 L lv toks e w0.heap.size (w0.heap.size + 1 + 1) (w0.heap.size + 1 + 1 + 1) W n [] [] ∧ FB (w0.heap.size + 1) W) (es_new H.out _ rfl) ?_
 clear H
 generalize w0.heap.size + 1 + 1 + 1 = Bt
 generalize w0.heap.size + 1 + 1 = Bo
 obtain ⟨y3, hy⟩ : ∃ y, w0.heap.size + 1 = y := ⟨_, rfl⟩
 have hy3 : w0.heap.size ≤ y3 := by omega
 rw [hy]
 obtain ⟨Bl, hBl⟩ : ∃ y, w0.heap.size = y := ⟨_, rfl⟩
 rw [hBl]
 rintro w1 ⟨hes, hfb⟩
 have HES := Lib.hid hes; have HFB := Lib.hid hfb
 clear hes hfb
 go_loopw [6] (fun o wr => ∃ (m k : Nat) (out : List Itm) (todo : List (Option Itm)), o = .int .i64 (k : Int) ∧ k = noneN todo ∧ ES W0 w0 L lv toks e Bl Bo Bt wr m out todo ∧ FB y3 wr ∧ out.length + todo.length ≤ m ∧ exprC true ⟨restT toks m, out, todo, k⟩ = R) (fun _ wr => toks.length - (Lib.intOf ((wr.cell? ⟨L, 1, none⟩).getD undef)).toNat)
 case atStart => exact ⟨n, 0, [], [], rfl, rfl, HES.out, HFB.out, Nat.zero_le _, HR.out⟩
 case round =>
  clear HES HFB HR
  obtain ⟨m, k, out, todo, rfl, hk, hes, hfb, hcm, hR⟩ := hrel
  have HK := Lib.hid hk
  clear hk
  have hm1 := hes.line.cells.2.1
  have hmn := hes.line.hn
  have cl := cell_of_row _ Bl 0 _ _ _ hes.lb
  have hpk := peek_any hes.line
  rw [exprC_want] at hR
  obtain ⟨t, ht⟩ : ∃ t, headT (restT toks m) = t := ⟨_, rfl⟩
  rw [ht] at hpk
  dsimp only at hR
  rw [ht] at hR
  unfold tkV at hpk
  have HPK := Lib.hid hpk; have HES := Lib.hid hes; have HFB := Lib.hid hfb; have HR := Lib.hid hR; have HT := Lib.hid ht; have HM1 := Lib.hid hm1
  clear hpk hes hfb hR ht hm1
  go_wp2_with fail
  refine HPK.out.mono ?_
  rintro _ wa ⟨⟨a9, rfl⟩, hba⟩
  have hes := (HES.out.next hba).alloc (.cells #[.int .i64 t.kind, .int .i64 a9, .string (str t.word), .int .i64 t.n] 39)
  have hfb : FB y3 (wa.alloc (.cells #[.int .i64 t.kind, .int .i64 a9, .string (str t.word), .int .i64 t.n] 39)) := (HFB.out.keep (KeepTy.below hba)).keep (KeepTy.below ((Below.refl _ _).alloc (Nat.le_refl _) _))
  have hy9 := World.alloc_heap_new wa (.cells #[.int .i64 t.kind, .int .i64 a9, .string (str t.word), .int .i64 t.n] 39)
  have hlt9 : w0.heap.size ≤ wa.heap.size := Nat.le_trans HES.out.lt hba.size
  have H9 := Lib.hid (And.intro hes (And.intro hfb hy9))
  clear hes hfb hy9 hba HPK HES HFB cl
  dsimp only
  go_upto_block 2 with fail
  refine gen_worldA (fun W => ES W0 w0 L lv toks e Bl Bo Bt W m out todo ∧ FB y3 W ∧ W.heap[wa.heap.size]? = some (.cells #[.int .i64 t.kind, .int .i64 a9, .string (str t.word), .int .i64 t.n] 39 (0, 0))) H9.out ?_
  clear H9
  generalize wa.heap.size = y9 at hlt9 ⊢
  clear wa
  rintro W ⟨hes, hfb, hy9⟩
  obtain ⟨tk, tw, tn⟩ := t
  go_cut [6, 11] from 15 to 191 (fun s6 s11 wx => ∃ (m1 : Nat) (out1 : List Itm), s6 = .int .i64 (k : Int) ∧ ES W0 w0 L lv toks e Bl Bo Bt wx m1 out1 todo ∧ FB y3 wx ∧ wx.heap[y9]? = some (.cells #[.int .i64 tk, .int .i64 a9, .string (str tw), .int .i64 tn] 39 (0, 0)) ∧ exprC false ⟨restT toks m1, out1, todo, k⟩ = R ∧ m < m1 ∧ out1.length + todo.length ≤ m1)
  case first =>
   go_upto_region 8 with fail
   have c90 := cell_of_row W y9 0 _ _ _ hy9
   have c91 := cell_of_row W y9 1 _ _ _ hy9
   have c92 := cell_of_row W y9 2 _ _ _ hy9
   have cl := cell_of_row _ Bl 0 _ _ _ hes.lb
   have HES := Lib.hid hes; have HFB := Lib.hid hfb; have HY9 := Lib.hid hy9
   clear hes hfb hy9
   dsimp only at c90 c91 c92
   have hv := fun w => verb_any tw w
   have HV := Lib.hid hv
   clear hv
   by_cases hA : tk ≠ 2 ∧ tk ≠ 4 ∧ VV.verb tw = true
   ·skip
    have hmlt := head_lt HT.out (show tk ≠ 4 from hA.2.1)
    have hla := later_any HES.out hmlt false
    obtain ⟨P, hP⟩ : ∃ P, phraseP VV false (restT toks m) = P := ⟨_, rfl⟩
    have hR2 : (P.bind fun p => exprC true ⟨p.2, out, some p.1 :: todo, k⟩) = R := by rw [← HR.out, ← hP]; unfold wantQ; rw [if_pos hA]
    rw [hP] at hla
    have HLA := Lib.hid hla; have HR2 := Lib.hid hR2
    obtain ⟨hA1, hA2, hA3⟩ := hA
    have hA3 : verbW tw = true := hA3
    rw [hA3] at HV
    have q2 : (tk != 2) = true := by simpa using hA1
    have q4 : (tk != 4) = true := by simpa using hA2
    clear hla hR2 hP hA3 HR HT
    go_wp2_with (go_at_call 62; refine (HV.out _).mono ?_; rintro e w' ⟨rfl, rfl⟩)
    refine HLA.out.mono ?_
    rintro _ wb ⟨i, fa, fx, m', rfl, hmm, hes, hpm, hkt⟩
    have hfb := HFB.out.keep (hkt _ (by decide) (by decide) (by decide))
    have c30 := cell_of_row wb y3 0 _ _ _ hfb
    have c31 := cell_of_row wb y3 1 _ _ _ hfb
    have f30 := frozen_of_row wb y3 0 _ _ hfb
    have f31 := frozen_of_row wb y3 1 _ _ hfb
    have hb3 := block_lt hfb
    have HES3 := Lib.hid hes; have HFB3 := Lib.hid hfb
    have hes' := hes.alloc (.cells #[.int .i64 fa, .int .i64 fx] 28)
    have hfb' : FB y3 (wb.alloc (.cells #[.int .i64 fa, .int .i64 fx] 28)) := hfb.keep (KeepTy.below ((Below.refl _ _).alloc (Nat.le_refl _) _))
    have HES2 := Lib.hid hes'; have HFB2 := Lib.hid hfb'; have HPM := Lib.hid hpm
    clear hes hes' hfb hfb' hpm hkt HES HFB HY9 cl c90 c91 c92 HLA HV
    dsimp only
    cases P with
    | none =>
     have hfx : (fx == 0) = false := HPM.out
     have hRn : R = none := HR2.out.symm
     go_upto_region 11 with fail
     go_region
     go_wp2_with fail
     obtain ⟨z1, z2, z3, -⟩ := fb_set HES3.out HFB3.out hy3 _ _ _ (.inr (.inr (.inl ⟨_, rfl⟩)))
     exact bodyPost_ret (results_expr y3 rfl rfl z1 (by kernel_rfl)) rfl ⟨z2, _, _, _, m', rfl, z3, by rw [hRn]; exact ⟨hfx, rfl⟩⟩
    | some p =>
     obtain ⟨rfl, hq, rfl, rfl⟩ : p.1 = i ∧ p.2 = restT toks m' ∧ fa = 0 ∧ fx = 0 := HPM.out
     have hR3 : exprC true ⟨restT toks m', out, some p.1 :: todo, k⟩ = R := by rw [← HR2.out, ← hq]; rfl
     have HR3 := Lib.hid hR3
     have HCN := Lib.hid HES2.out.line.cells.2.1
     have hm' := HES2.out.line.hn
     clear hR3 HR2 HPM hq
     go_wp2_with fail
     go_roundw
     case rel => exact ⟨m', k, out, some p.1 :: todo, rfl, HK.out, HES2.out, HFB2.out, by simp; omega, HR3.out⟩
     case measure => rw [HM1.out, HCN.out]; simp [Lib.intOf]; omega
   have hR2 := HR.out
   unfold wantQ at hR2
   rw [if_neg hA] at hR2
   dsimp only at hR2
   by_cases hB : tk = 3 ∧ tw = [40]
   ·skip
    obtain ⟨rfl, rfl⟩ := hB
    rw [if_pos (by rfl)] at hR2
    have hmlt := head_lt HT.out (show (3 : Int) ≠ 4 by decide)
    have hrc := head_cons HT.out hmlt
    have HV2 : Hid (∀ w, Calls Tryz.prog 62 #[.string (str [40])] w fun e w' => e = .returned (.bool false) ∧ w' = w) := HV
    clear HV HR HT hA
    by_cases h32 : k = 32
    ·rw [if_pos h32] at hR2
     have q32 : ((k : Int) == 32) = true := by rw [h32]; rfl
     have HF := Lib.hid (fault_any HES.out.line 44)
     have hRn : R = none := hR2.symm
     clear hR2
     go_wp2_with (go_at_call 62; refine (HV2.out _).mono ?_; rintro e w' ⟨rfl, rfl⟩)
     refine HF.out.mono ?_
     rintro _ wb ⟨⟨fa, rfl⟩, hbb⟩
     have HES3 := Lib.hid (HES.out.next hbb)
     have hfb := HFB.out.keep (KeepTy.below hbb)
     have c30 := cell_of_row wb y3 0 _ _ _ hfb
     have c31 := cell_of_row wb y3 1 _ _ _ hfb
     have f30 := frozen_of_row wb y3 0 _ _ hfb
     have f31 := frozen_of_row wb y3 1 _ _ hfb
     have HFB3 := Lib.hid hfb
     clear hfb hbb HES HFB HY9 cl c90 c91 c92
     dsimp only
     go_wp2_with fail
     obtain ⟨z1, z2, z3, -⟩ := fb_set HES3.out HFB3.out hy3 _ _ _ (.inl rfl)
     exact bodyPost_ret (results_expr y3 rfl rfl z1 (by kernel_rfl)) rfl ⟨z2, _, _, _, m, rfl, z3, by rw [hRn]; exact ⟨by decide, rfl⟩⟩
    ·rw [if_neg h32, hrc, List.tail_cons] at hR2
     have q32 : ((k : Int) == 32) = false := by rw [beq_eq_false_iff_ne]; omega
     have hes1 := HES.out.lineN ((KB.refl (fun g => g = L) _).setCell (p := ⟨L, 1, none⟩) (fun _ => rfl) _) (HES.out.line.setN (m + 1) (by omega)) (by omega)
     have hfb1 := HFB.out.keep (keepTy_kbL HES.out.line ((KB.refl (fun g => g = L) _).setCell (p := ⟨L, 1, none⟩) (fun _ => rfl) (.int .i64 ((m + 1 : Nat) : Int))) _ (by decide))
     have lm := HES.out.line.cells.2.1
     have fm := frozen_of_row W L 1 _ _ HES.out.line.box
     have hk64 : k ≤ 65536 := by have := nones_le todo; have := HES.out.cnt; have := HES.out.line.hn; have := HK.out; omega
     have HES1 := Lib.hid hes1; have HFB1 := Lib.hid hfb1; have HR3 := Lib.hid hR2
     clear hes1 hfb1 hR2 HES HFB HY9 hrc
     go_upto_region 17 with (go_at_call 62; refine (HV2.out _).mono ?_; rintro e w' ⟨rfl, rfl⟩)
     refine gen_worldA (fun W1 => ES W0 w0 L lv toks e Bl Bo Bt W1 (m + 1) out todo ∧ FB y3 W1) ⟨HES1.out, HFB1.out⟩ ?_
     clear HES1 HFB1 lm fm c90 c91 c92 cl HV2
     rintro W1 ⟨hes1, hfb1⟩
     have hes2 := hes1.alloc (.cells #[.nilFunc] 1)
     have hfb2 := hfb1.keep (KeepTy.below ((Below.refl _ _).alloc (Nat.le_refl _) (.cells #[.nilFunc] 1)))
     have hG := World.alloc_heap_new W1 (.cells #[.nilFunc] 1)
     obtain ⟨ov, tv, cs, hft0⟩ := hes1.st
     have hft : FTx _ _ _ (W1.alloc (.cells #[.nilFunc] 1)) ov tv cs out todo := FTx.keep hft0 (fun u _ => KeepTy.below ((Below.refl _ _).alloc (Nat.le_refl _) _))
     have hrow := hft.2.row
     have c0 := cell_of_row W1 Bt 0 _ _ _ hft0.2.box
     obtain ⟨ta, tc, rfl⟩ : ∃ a c, tv = .slice a todo.length c := by
      obtain ⟨_, ⟨hv, h0⟩ | ⟨g, cap, cur, hv, _⟩⟩ := hrow
      ·exact ⟨none, 0, by rw [hv, h0]⟩
      ·exact ⟨_, _, hv⟩
     have hM : w0.heap.size ≤ (W1.alloc (.cells #[.nilFunc] 1)).heap.size := hes2.lt
     have hbt := hft.2.box
     have hcn1 := hes2.cnt
     have hmn' := hes1.line.hn
     have hbtl := block_lt hft0.2.box
     obtain ⟨i0, hi, hz0, hz1, hz2⟩ := info_parts (show (Tryz.prog.info? 1).map (fun i => (i.zero, i.size, i.bytes)) = some (some .nilFunc, 1, 8) by kernel_rfl)
     have HI := Lib.hid hi; have HZ0 := Lib.hid hz0; have HZ1 := Lib.hid hz1; have HZ2 := Lib.hid hz2; have HR1 := Lib.hid hrow; have HGG := Lib.hid hG; have HBT := Lib.hid hbt; have HMM := Lib.hid hM
     have HES2 := Lib.hid hes2; have HFB2 := Lib.hid hfb2; have HFT := Lib.hid hft
     clear hi hz0 hz1 hz2 hrow hG hbt hM hes1 hes2 hfb1 hfb2 hft hft0
     go_wp2_with (at_builtin; go_loud ((refine wpList_append_src _ rfl _ _ 135 rfl w0.heap.size 1 i0 .nilFunc 1 8 Tryz.underlying135 HI.out HZ0.out HZ1.out HZ2.out rfl (show 0 < 1 by decide) _ todo.length cs rfl HR1.out _ 1 [.nilFunc] rfl (src_block HGG.out 1) (by simp) (by intro u hu; cases List.mem_singleton.1 hu; rfl) (by unfold maxLen; omega) (by omega) HMM.out ?_); intro v' wz hrz hgz hnz; obtain ⟨zg, zc, rfl⟩ := Go.Joins.ownsRow_form hrz (by omega); have hbz := KeepTy.grown hgz (fun g e => by obtain ⟨cur, hc⟩ := own_typed HR1.out e; exact NotTy.of hc (show 1 ≠ 135 by decide)) _ _ HBT.out; have c1 := cell_of_row wz Bt 0 _ _ _ hbz; have f1 := frozen_of_row wz Bt 0 _ _ hbz; have HPT := Lib.hid (HFT.out.pushT (o := none) HES2.out.ht HMM.out rfl hrz hgz); clear hrz hgz hnz hbz))
     obtain ⟨hf3, hb3, hk3⟩ := HPT.out
     have hes3 := HES2.out.turn hb3 (hk3 _ (by decide) (by decide)) ⟨_, _, _, hf3⟩ (by simp; omega)
     have HES3 := Lib.hid hes3; have HFB3 := Lib.hid (FB.keep HFB2.out (hk3 _ (by decide) (by decide)))
     have HCN := Lib.hid hes3.line.cells.2.1
     clear hf3 hb3 hk3 hes3 HPT
     go_roundw
     case rel => exact ⟨m + 1, k + 1, out, none :: todo, by go_num, by rw [HK.out]; rfl, HES3.out, HFB3.out, by simp; omega, HR3.out⟩
     case measure => rw [HM1.out, HCN.out]; simp [Lib.intOf]; omega
   have hBs : isSign ⟨tk, tw, tn⟩ 40 = false := by
    unfold isSign
    cases hh : ((tk == 3 && decide (tw = [40])) : Bool) with
    | false => rfl
    | true => exact absurd (by simpa using hh) hB
   rw [hBs, if_neg (by decide)] at hR2
   have hshort : tw.length ≤ 9223372036854775807 := HES.out.line.short HT.out
   by_cases hC2 : tk = 2
   ·skip
    subst hC2
    rw [if_pos rfl] at hR2
    have hmlt := head_lt HT.out (show (2 : Int) ≠ 4 by decide)
    have hrc := head_cons HT.out hmlt
    have hr1 := congrArg (fun l => (numsP l).1.length) hrc
    rw [nums_cons (by rfl)] at hr1
    have HRB := Lib.hid hR2; have HN1 := Lib.hid hr1
    clear hR2 hA hrc HR HT hshort hB hBs hr1
    go_upto_region 20 with fail
    have hyW : y9 < W.heap.size := block_lt HY9.out
    have h11 := World.alloc_heap_new W (.cells #[.int .i64 1, .int .i64 a9, .int .u8 0, .string ⟨#[]⟩, .slice none 0 0] 121)
    have HLI := Lib.hid (HES.out.line.alloc (.cells #[.int .i64 1, .int .i64 a9, .int .u8 0, .string ⟨#[]⟩, .slice none 0 0] 121))
    have HKW := Lib.hid ((KB.refl (fun g => g = L) W).alloc (.cells #[.int .i64 1, .int .i64 a9, .int .u8 0, .string ⟨#[]⟩, .slice none 0 0] 121))
    obtain ⟨y11, hy11⟩ : ∃ y, W.heap.size = y := ⟨_, rfl⟩
    rw [hy11] at h11 ⊢
    have H11 := Lib.hid h11
    clear h11 c90 c91 c92 cl HV
    generalize W.alloc (.cells #[.int .i64 1, .int .i64 a9, .int .u8 0, .string ⟨#[]⟩, .slice none 0 0] 121) = Wa at HLI HKW H11 ⊢
    go_loopw [] (fun wr => ∃ (m1 : Nat) (nums : List Int) (v : Value), KB (fun g => g = L) W wr ∧ LineI W0 L lv toks e wr m1 ∧ wr.heap[y11]? = some (.cells #[.int .i64 1, .int .i64 a9, .int .u8 0, .string ⟨#[]⟩, v] 121 (0, 0)) ∧ RowI y11 wr v nums ∧ m1 = m + nums.length ∧ numsP (restT toks m) = (nums ++ (numsP (restT toks m1)).1, (numsP (restT toks m1)).2)) (fun wr => toks.length - (Lib.intOf ((wr.cell? ⟨L, 1, none⟩).getD undef)).toNat)
    case atStart => exact ⟨m, [], _, HKW.out, HLI.out, H11.out, RowI.nil _ _, rfl, by simp⟩
    case round =>
     clear HLI HKW H11
     obtain ⟨m1, nums, v, hkb, hli, h11, hrow, hm1, hnum⟩ := hrel
     have hesr := HES.out.lineN hkb hli (by omega)
     have hnl64 : nums.length ≤ 65536 := by have := hli.hn; omega
     have hmm1 : m ≤ m1 := by omega
     have HM1E := Lib.hid hm1
     clear hm1
     have cl := cell_of_row _ Bl 0 _ _ _ hesr.lb
     have hpk := peek_any hli
     obtain ⟨t2, ht2⟩ : ∃ t2, headT (restT toks m1) = t2 := ⟨_, rfl⟩
     rw [ht2] at hpk
     obtain ⟨uk, uw, un⟩ := t2
     unfold tkV at hpk
     dsimp only at hpk
     have hm1n := hli.hn
     have HPK := Lib.hid hpk; have HKB := Lib.hid hkb; have HLI := Lib.hid hli; have H11 := Lib.hid h11; have HRW := Lib.hid hrow; have HNM := Lib.hid hnum; have HT2 := Lib.hid ht2; have HESR := Lib.hid hesr
     clear hpk hkb hli h11 hrow hnum ht2 hesr
     by_cases hu2 : uk = 2
     ·subst hu2
      go_upto_region 22 with (go_at_call 34; refine HPK.out.mono ?_; rintro _ wa ⟨⟨b9, rfl⟩, hba⟩; have HBA := Lib.hid hba; clear hba)
      have HT3 := HT2
      have hmlt1 := head_lt HT2.out (show (2 : Int) ≠ 4 by decide)
      have hrc1 := head_cons HT2.out hmlt1
      have hnum2 : numsP (restT toks m) = ((nums ++ [un]) ++ (numsP (restT toks (m1 + 1))).1, (numsP (restT toks (m1 + 1))).2) := by
       rw [HNM.out, hrc1, nums_cons (by rfl)]; simp
      have hli := HLI.out.next HBA.out
      have hkb := kbL_next HKB.out HBA.out
      have h11 := block_below H11.out HBA.out
      have hrow := HRW.out.below HBA.out
      have clb := cell_of_row _ Bl 0 _ _ _ (block_below HESR.out.lb HBA.out)
      have hm1c := HLI.out.cells.2.1
      obtain ⟨va, vc, rfl, -, -⟩ := hrow.slice
      have hLy : L < y11 := by have := HES.out.hL; have := HES.out.lt; omega
      have hy11' : y11 ≤ wa.heap.size := Nat.le_of_lt (block_lt h11)
      have HX := Lib.hid (And.intro hkb (And.intro hli (And.intro h11 hrow))); have HN2 := Lib.hid hnum2; have HM1C := Lib.hid hm1c; have HCLB := Lib.hid clb
      have hc4 := cell_of_row wa y11 4 _ _ _ h11
      have HC4 := Lib.hid hc4
      clear hli hkb h11 hrow clb hnum2 hrc1 HLI HKB H11 HRW HNM HT2 HPK hm1c hc4
      refine wp_region_Z (S := fun W' => W'.cell? ⟨y11, 4, none⟩ = some (.slice va nums.length vc) ∧ W'.cell? ⟨Bl, 0, none⟩ = some (.pointer (some ⟨L, 0, none⟩))) (z := 8) (by kernel_rfl) ?_
      have hSS : (fun W' : World => W'.cell? ⟨y11, 4, none⟩ = some (.slice va nums.length vc) ∧ W'.cell? ⟨Bl, 0, none⟩ = some (.pointer (some ⟨L, 0, none⟩))) wa.drew := ⟨HC4.out, HCLB.out⟩
      clear cl
      refine wpAnyZ_take (i := 0) (v := ?_) rfl (by kernel_rfl) (by kernel_rfl) (by kernel_rfl) (fun _ _ _ h => h) (by kernel_rfl) (Or.inl ⟨by rfl, ?_⟩) (by assumption) ?_
      rotate_left
      ·intro w' hSw
       try dsimp only at hSw
       try obtain ⟨hSw, hSw2⟩ := hSw
       go_simp
       try with_reducible rfl
      show wpAnyZ _ _ _ _ _ _ _ _ (Act.put _ (some 82) _) _
      simp only [Act.put, List.setIfInBounds_toArray, List.set_cons_zero, List.set_cons_succ]
      refine wpAnyZ_take (i := 1) (v := ?_) rfl (by kernel_rfl) (by kernel_rfl) (by kernel_rfl) (fun _ _ _ h => h) (by kernel_rfl) (Or.inl ⟨by rfl, ?_⟩) (by assumption) ?_
      rotate_left
      ·intro w' hSw
       try dsimp only at hSw
       try obtain ⟨hSw, hSw2⟩ := hSw
       go_simp
       try with_reducible rfl
      show wpAnyZ _ _ _ _ _ _ _ _ (Act.put _ (some 83) _) _
      simp only [Act.put, List.setIfInBounds_toArray, List.set_cons_zero, List.set_cons_succ]
      refine wpAnyZ_take (i := 2) (v := ?_) rfl (by kernel_rfl) (by kernel_rfl) (by kernel_rfl) (fun _ _ _ h => h) (by kernel_rfl) (Or.inl ⟨by rfl, ?_⟩) (by assumption) ?_
      rotate_left
      ·intro w' hSw
       try dsimp only at hSw
       try obtain ⟨hSw, hSw2⟩ := hSw
       go_simp
       try with_reducible rfl
      show wpAnyZ _ _ _ _ _ _ _ _ (Act.put _ (some 84) _) _
      simp only [Act.put, List.setIfInBounds_toArray, List.set_cons_zero, List.set_cons_succ]
      clear hSS
      refine wpAnyZ_one (i := 3) (by kernel_rfl) rfl rfl (fun K hK => ?_)
      go_simp
      have hpk2 := peek_any (HX.out.2.1.next (Below.refl wa.heap.size wa).drew)
      rw [HT3.out] at hpk2
      unfold tkV at hpk2
      refine hpk2.mono ?_
      clear hpk2
      rintro _ wp ⟨⟨b8, rfl⟩, hbp⟩
      obtain ⟨hkb, hli, h11, hrow⟩ := HX.out
      have hbp' := (Below.refl wa.heap.size wa).drew.trans hbp
      have hkb := kbL_next hkb hbp'
      have hli := hli.next hbp'
      have h11 := block_below h11 hbp'
      have hrow := hrow.below hbp'
      have hcb : wp.cell? ⟨Bl, 0, none⟩ = some (.pointer (some ⟨L, 0, none⟩)) := keepCell hbp' HCLB.out
      show K _ wp
      refine hK.out _ _ (.inr ⟨cell_of_row wp y11 4 _ _ _ h11, hcb⟩) ?_
      have hyp : y11 ≤ wp.heap.size := Nat.le_of_lt (block_lt h11)
      have hbl := World.block_lt_of_cell? _ _ hcb
      have HX := Lib.hid (And.intro hkb (And.intro hli (And.intro h11 hrow))); have HCB := Lib.hid hcb; have HLBP := Lib.hid (block_below (block_below HESR.out.lb HBA.out) hbp')
      clear hK hbp hbp' hkb hli h11 hrow hcb
      refine wpAnyZ_one (i := 4) (by kernel_rfl) rfl rfl (fun K hK => ?_)
      go_simp
      refine hK.out _ _ (.inr ⟨cell_of_row wp y11 4 _ _ _ HX.out.2.2.1, HCB.out⟩) ?_
      clear hK
      refine wpAnyZ_one (i := 5) (by kernel_rfl) rfl rfl (fun K hK => ?_)
      go_simp
      have h11a := heap_alloc HX.out.2.2.1 (.cells #[.int .i64 un] 2)
      have hcba : (wp.alloc (.cells #[.int .i64 un] 2)).cell? ⟨Bl, 0, none⟩ = some (.pointer (some ⟨L, 0, none⟩)) := (World.cell?_alloc_lt _ _ _ hbl).trans HCB.out
      refine hK.out _ _ (.inr ⟨cell_of_row _ y11 4 _ _ _ h11a, hcba⟩) ?_
      clear hK
      have hrowa : RowI y11 (wp.alloc (.cells #[.int .i64 un] 2)) (.slice va nums.length vc) nums := HX.out.2.2.2.below ((Below.refl _ _).alloc (Nat.le_refl _) _)
      have hGa := World.alloc_heap_new wp (.cells #[.int .i64 un] 2)
      have hya : y11 ≤ (wp.alloc (.cells #[.int .i64 un] 2)).heap.size := by simp; omega
      obtain ⟨i0, hi, hz0, hz1, hz2⟩ := info_parts (show (Tryz.prog.info? 2).map (fun i => (i.zero, i.size, i.bytes)) = some (some (.int .i64 0), 1, 8) by kernel_rfl)
      refine wpAnyZ_one (i := 6) (by kernel_rfl) rfl rfl (fun K hK => ?_)
      refine wp_append_src _ (.tmp 83) (.tmp 87) 42 rfl y11 2 i0 (.int .i64 0) 1 8 Tryz.underlying42 hi hz0 hz1 hz2 rfl (show 0 < 1 by decide) _ nums.length _ rfl hrowa _ 1 [.int .i64 un] rfl (src_block hGa 1) (by simp) (by intro u hu; cases List.mem_singleton.1 hu; rfl) (by unfold maxLen; omega) (by omega) hya ?_
      intro v' wz hrz hgz hnz
      have hkz : ∀ u, u ≠ 2 → KeepTy u (wp.alloc (.cells #[.int .i64 un] 2)) wz := fun u hu => KeepTy.grown hgz (fun g e => by obtain ⟨cur, hc⟩ := own_typed hrowa e; exact NotTy.of hc (Ne.symm hu))
      have h11z := hkz _ (by decide) _ _ h11a
      have hlbz := hkz _ (by decide) _ _ (heap_alloc HLBP.out (.cells #[.int .i64 un] 2))
      have hrz : RowI y11 wz v' (nums ++ [un]) := by unfold RowI; simpa using hrz
      obtain ⟨za, zc, rfl, -, -⟩ := hrz.slice
      refine hK.out _ _ (.inr ⟨cell_of_row wz y11 4 _ _ _ h11z, cell_of_row wz Bl 0 _ _ _ hlbz⟩) ?_
      have c4z := cell_of_row wz y11 4 _ _ _ h11z
      have clz : wz.cell? ⟨Bl, 0, none⟩ = some (.pointer (some ⟨L, 0, none⟩)) := cell_of_row wz Bl 0 _ _ _ hlbz
      have f4z := frozen_of_row wz y11 4 _ _ h11z
      -- the world behind the store
      have hbz : Below y11 wp (wz.setCell ⟨y11, 4, none⟩ (.slice za (nums ++ [un]).length zc)) := (((Below.refl y11 wp).alloc hyp _).grown hgz hya (fun g hg => (World.ownsRow.lt hrowa g hg).1)).setCell (p := ⟨y11, 4, none⟩) (Nat.le_refl _) _
      have k2 : ∀ u, u ≠ 121 → KeepTy u wz (wz.setCell ⟨y11, 4, none⟩ (.slice za (nums ++ [un]).length zc)) := fun u hu => KeepTy.setCell (p := ⟨y11, 4, none⟩) (NotTy.of h11z (Ne.symm hu)) _
      have hli2 := HX.out.2.1.under hbz hLy
      have hkb2 := HX.out.1.then_below hbz (fun g h1 h2 => by omega)
      have hrow2 := hrz.keepTy (k2 _ (by decide))
      have h112 := set_block (k := 4) (v := .slice za (nums ++ [un]).length zc) h11z
      have hlb2 := k2 _ (by decide) _ _ hlbz
      have HZ := Lib.hid (And.intro hkb2 (And.intro hli2 (And.intro h112 (And.intro hrow2 hlb2))))
      clear hK hkz h11z hlbz hrz hgz hnz hbz k2 hli2 hkb2 hrow2 h112 hlb2 h11a hcba hrowa hGa hi hz0 hz1 hz2 HX HCB HCLB HC4
      refine wpAnyZ_one (i := 7) (by kernel_rfl) rfl rfl (fun K hK => ?_)
      go_simp
      refine hK.out _ _ (.inr ⟨c4z, clz⟩) ?_
      clear hK
      refine wpAnyZ_one (i := 8) (by kernel_rfl) rfl rfl (fun K hK => ?_)
      go_simp
      refine hK.out _ _ (.inl (by omega)) ?_
      clear hK
      refine wpAnyZ_done (by kernel_rfl) ?_ _
      have hlen2 : (nums ++ [un]).length = nums.length + 1 := by simp
      rw [hlen2] at HZ
      clear c4z f4z clz
      go_upto_region 21 with fail
      refine gen_worldA (fun W2 => KB (fun g => g = L) W W2 ∧ LineI W0 L lv toks e W2 m1 ∧ W2.heap[y11]? = _ ∧ RowI y11 W2 _ (nums ++ [un]) ∧ W2.heap[Bl]? = _) HZ.out ?_
      clear HZ
      rintro W2 ⟨hkb, hli, h11, hrow, hlb⟩
      have cl := cell_of_row _ Bl 0 _ _ _ hlb
      have lm := hli.cells.2.1
      have fm := frozen_of_row W2 L 1 _ _ hli.box
      have kL := (KB.refl (fun g => g = L) W2).setCell (p := ⟨L, 1, none⟩) (fun _ => rfl) (.int .i64 ((m1 + 1 : Nat) : Int))
      have hk := keepTy_kbL hli kL
      have hli2 := hli.setN (m1 + 1) (by omega)
      have HZ := Lib.hid (And.intro (hkb.trans kL) (And.intro hli2 (And.intro (hk _ (by decide) _ _ h11) (hrow.keepTy (hk _ (by decide))))))
      have HCN : Hid ((W2.setCell ⟨L, 1, none⟩ (.int .i64 ((m1 : Int) + 1))).cell? ⟨L, 1, none⟩ = some (.int .i64 ((m1 : Int) + 1))) := Lib.hid hli2.cells.2.1
      clear hkb hli h11 hrow hlb kL hk hli2
      go_wp2_with fail
      go_roundw
      case rel => exact ⟨m1 + 1, nums ++ [un], _, HZ.out.1, HZ.out.2.1, HZ.out.2.2.1, HZ.out.2.2.2, by have := HM1E.out; simp; omega, HN2.out⟩
      case measure => rw [HM1C.out, HCN.out]; simp [Lib.intOf]; omega
     ·have q2 : (uk == 2) = false := by rw [beq_eq_false_iff_ne]; exact hu2
      go_upto_region 23 with (go_at_call 34; refine HPK.out.mono ?_; rintro _ wa ⟨⟨b9, rfl⟩, hba⟩; have HBA := Lib.hid hba; clear hba)
      have hN := HNM.out
      rw [nums_stop (r := restT toks m1) (by rw [HT2.out]; exact hu2), List.append_nil] at hN
      have hRB := HRB.out
      rw [hN] at hRB
      have hnl : 1 ≤ nums.length := by have := HN1.out; rw [hN] at this; simp at this; omega
      have hes := HESR.out.next HBA.out
      have hfb := (HFB.out.keep (KeepTy.kb HKB.out (fun g hg => by subst hg; exact NotTy.of HES.out.line.box (by decide)))).keep (KeepTy.below HBA.out)
      have hy9 := block_below (KeepTy.kb (t := 39) HKB.out (fun g hg => by subst hg; exact NotTy.of HES.out.line.box (by decide)) _ _ HY9.out) HBA.out
      have h11 := block_below H11.out HBA.out
      have hrw := HRW.out.below HBA.out
      have hL9 : m < m1 := by have := HM1E.out; omega
      obtain ⟨va, vc, rfl, -, -⟩ := hrw.slice
      have HRB2 := Lib.hid hRB
      clear HRB HN1 hN hRB HNM HT2 HPK HESR HES HFB HY9 HKB HLI H11 HRW cl
      refine gen_worldA (fun W1 => ES W0 w0 L lv toks e Bl Bo Bt W1 m1 out todo ∧ FB y3 W1 ∧ W1.heap[y9]? = _ ∧ W1.heap[y11]? = _ ∧ RowI y11 W1 _ nums) ⟨hes, hfb, hy9, h11, hrw⟩ ?_
      clear hes hfb hy9 h11 hrw HBA
      rintro W1 ⟨hes1, hfb1, hy1, h11, hrw⟩
      have cl := cell_of_row _ Bl 0 _ _ _ hes1.lb
      obtain ⟨ov, tv, cs, hft0⟩ := hes1.st
      have hft : FTx _ _ _ (W1.alloc (.cells #[.int .i64 1, .int .i64 a9, .int .u8 0, .string ⟨#[]⟩, .slice va nums.length vc] 121)) ov tv cs out todo := FTx.keep hft0 (fun u _ => KeepTy.below ((Below.refl _ _).alloc (Nat.le_refl _) _))
      have hG := World.alloc_heap_new W1 (.cells #[.int .i64 1, .int .i64 a9, .int .u8 0, .string ⟨#[]⟩, .slice va nums.length vc] 121)
      have hrow := hft.1.row
      have c0 := cell_of_row W1 Bo 0 _ _ _ hft0.1.box
      obtain ⟨oa, oc, rfl⟩ := hrow.form
      have hk9 : ∀ u, KeepTy u W1 (W1.alloc (.cells #[.int .i64 1, .int .i64 a9, .int .u8 0, .string ⟨#[]⟩, .slice va nums.length vc] 121)) := fun u => KeepTy.below ((Below.refl _ _).alloc (Nat.le_refl _) _)
      have hA : itmR.At (W1.alloc (.cells #[.int .i64 1, .int .i64 a9, .int .u8 0, .string ⟨#[]⟩, .slice va nums.length vc] 121)) (#[.int .i64 1, .int .i64 a9, .int .u8 0, .string ⟨#[]⟩, .slice va nums.length vc] : Array Value).toList (Itm.mk 1 0 [] nums) := ⟨a9, _, rfl, (hrw.mono (Nat.zero_le _)).keepTy (hk9 _)⟩
      have hes2 := hes1.alloc (.cells #[.int .i64 1, .int .i64 a9, .int .u8 0, .string ⟨#[]⟩, .slice va nums.length vc] 121)
      have hM := hes2.lt
      have hbo := hft.1.box
      have hbol := block_lt hft0.1.box
      have HES2 := Lib.hid hes2; have HFB2 := Lib.hid (hfb1.keep (hk9 _)); have HY2 := Lib.hid (hk9 _ _ _ hy1); have HFT := Lib.hid hft; have HR1 := Lib.hid hrow; have HGG := Lib.hid hG; have HAA := Lib.hid hA; have HMM := Lib.hid hM; have HBO := Lib.hid hbo; have H11 := Lib.hid h11
      clear hft0 hft hG hrow hA hes1 hes2 hM hbo hfb1 hy1 hk9 h11 hrw
      go_wp2_with (first
       | ((with_reducible show wpList _ _ _ ({ dst := some _, op := Op.load 121 (.tmp 11), type := _, pos := _, after := _, guard := _ } :: _) _ _); (refine wpList_loadW (by rfl) 121 _ rfl y11 rfl _ _ (0, 0) _ H11.out Tryz.underlying121 rfl (by kernel_rfl) ?_))
       | (at_builtin; (refine wpList_pushN rfl _ _ 65 121 rfl (.agg #[.int .i64 0, .int .i64 0, .int .u8 0, .string ⟨#[]⟩, .slice none 0 0]) 64 Tryz.underlying65 (by kernel_rfl) (by rfl) (show 0 < 5 by decide) w0.heap.size w0.heap.size W1.heap.size (keep_itm _) _ out _ _ rfl HR1.out rfl HGG.out HAA.out (by unfold maxLen; omega) (by omega) (Nat.le_refl _) HMM.out ?_); intro v' wz hrz hbz hgz hkz hnz; obtain ⟨za, zc, hz⟩ := hrz.form; rw [List.length_append, List.length_singleton] at hz; subst hz; have c1 := cell_of_row wz Bo 0 _ _ _ (hkz 65 (by decide) _ _ HBO.out); have f1 := frozen_of_row wz Bo 0 _ _ (hkz 65 (by decide) _ _ HBO.out); have HPT := Lib.hid (HFT.out.push HES2.out.ho HMM.out hrz hgz hnz); clear hrz hgz hnz hbz hkz))
      obtain ⟨hf3, hb3, hk3⟩ := HPT.out
      have hes3 := HES2.out.turn hb3 (hk3 _ (by decide) (by decide)) ⟨_, _, _, hf3⟩ (by simp; omega)
      have hfb3 := HFB2.out.keep (hk3 _ (by decide) (by decide))
      have hy3' := hk3 _ (by decide) (by decide) _ _ HY2.out
      have hcm1 : (out ++ [Itm.mk 1 0 [] nums]).length + todo.length ≤ m1 := by simp; omega
      go_meet
      exact ⟨m1, out ++ [Itm.mk 1 0 [] nums], rfl, hes3, hfb3, hy3', HRB2.out, hL9, hcm1⟩
   rw [if_neg hC2] at hR2
   by_cases hD : tk = 1 ∧ VV.name tw = true
   ·skip
    obtain ⟨rfl, hD2⟩ := hD
    rw [if_pos ⟨rfl, hD2⟩] at hR2
    have hD3 : nameW tw = true := hD2
    have hA3 : verbW tw = false := by
     cases hvb : verbW tw with
     | false => rfl
     | true => exact absurd ⟨by decide, by decide, hvb⟩ hA
    have hmlt := head_lt HT.out (show (1 : Int) ≠ 4 by decide)
    have hrc := head_cons HT.out hmlt
    rw [hrc, List.tail_cons] at hR2
    rw [hA3] at HV
    have hnm := Name_any tw W (HTB.out.below (HES.out.line.size ▸ HES.out.line.below)) hshort
    rw [hD3] at hnm
    have HNM := Lib.hid hnm; have HRB := Lib.hid hR2
    clear hnm hR2 hA hrc HR HT hD2
    go_upto_region 25 with (first
     | (go_at_call 62; refine (HV.out _).mono ?_; rintro e w' ⟨rfl, rfl⟩)
     | (go_at_call 37; refine HNM.out.mono ?_; rintro e wn ⟨rfl, hbn⟩; have HBN := Lib.hid hbn; clear hbn))
    have hes1 := HES.out.next HBN.out
    have hfb1 := HFB.out.keep (KeepTy.below HBN.out)
    have hy1 := block_below HY9.out HBN.out
    refine gen_worldA (fun W1 => ES W0 w0 L lv toks e Bl Bo Bt W1 m out todo ∧ FB y3 W1 ∧ W1.heap[y9]? = _) ⟨hes1, hfb1, hy1⟩ ?_
    clear hes1 hfb1 hy1 HBN HES HFB HY9 HNM HV c90 c91 c92 cl
    rintro W1 ⟨hes1, hfb1, hy1⟩
    have c91 := cell_of_row W1 y9 1 _ _ _ hy1
    have c92 := cell_of_row W1 y9 2 _ _ _ hy1
    have cl := cell_of_row _ Bl 0 _ _ _ hes1.lb
    obtain ⟨ov, tv, cs, hft0⟩ := hes1.st
    have hft : FTx _ _ _ (W1.alloc (.cells #[.int .i64 2, .int .i64 a9, .int .u8 0, .string (str tw), .slice none 0 0] 121)) ov tv cs out todo := FTx.keep hft0 (fun u _ => KeepTy.below ((Below.refl _ _).alloc (Nat.le_refl _) _))
    have hG := World.alloc_heap_new W1 (.cells #[.int .i64 2, .int .i64 a9, .int .u8 0, .string (str tw), .slice none 0 0] 121)
    have hrow := hft.1.row
    have c0 := cell_of_row W1 Bo 0 _ _ _ hft0.1.box
    obtain ⟨oa, oc, rfl⟩ := hrow.form
    have hA : itmR.At (W1.alloc (.cells #[.int .i64 2, .int .i64 a9, .int .u8 0, .string (str tw), .slice none 0 0] 121)) (#[.int .i64 2, .int .i64 a9, .int .u8 0, .string (str tw), .slice none 0 0] : Array Value).toList ⟨2, 0, tw, []⟩ := ⟨a9, _, rfl, RowI.nil _ _⟩
    have hes2 := hes1.alloc (.cells #[.int .i64 2, .int .i64 a9, .int .u8 0, .string (str tw), .slice none 0 0] 121)
    have hM := hes2.lt
    have hbo := hft.1.box
    have hbol := block_lt hft0.1.box
    have hcn1 := hes2.cnt
    have lm := hes1.line.cells.2.1
    have hll := hes1.line.lt
    have h9l := block_lt hy1
    have hk9 : ∀ u, KeepTy u W1 (W1.alloc (.cells #[.int .i64 2, .int .i64 a9, .int .u8 0, .string (str tw), .slice none 0 0] 121)) := fun u => KeepTy.below ((Below.refl _ _).alloc (Nat.le_refl _) _)
    have HES2 := Lib.hid hes2; have HFB2 := Lib.hid (hfb1.keep (hk9 _)); have HY2 := Lib.hid (hk9 _ _ _ hy1); have HFT := Lib.hid hft; have HR1 := Lib.hid hrow; have HGG := Lib.hid hG; have HAA := Lib.hid hA; have HMM := Lib.hid hM; have HBO := Lib.hid hbo
    clear hft0 hft hG hrow hA hes1 hes2 hM hbo hfb1 hy1 hk9
    go_upto_region 26 with (at_builtin; (refine wpList_pushN rfl _ _ 65 121 rfl (.agg #[.int .i64 0, .int .i64 0, .int .u8 0, .string ⟨#[]⟩, .slice none 0 0]) 64 Tryz.underlying65 (by kernel_rfl) (by rfl) (show 0 < 5 by decide) w0.heap.size w0.heap.size W1.heap.size (keep_itm _) _ out _ _ rfl HR1.out rfl HGG.out HAA.out (by unfold maxLen; omega) (by omega) (Nat.le_refl _) HMM.out ?_); intro v' wz hrz hbz hgz hkz hnz; obtain ⟨za, zc, hz⟩ := hrz.form; rw [List.length_append, List.length_singleton] at hz; subst hz; have c1 := cell_of_row wz Bo 0 _ _ _ (hkz 65 (by decide) _ _ HBO.out); have f1 := frozen_of_row wz Bo 0 _ _ (hkz 65 (by decide) _ _ HBO.out); have hzl := hkz 62 (by decide) _ _ HES2.out.line.box; have lm1 := cell_of_row wz L 1 _ _ _ hzl; have fm1 := frozen_of_row wz L 1 _ _ hzl; have clz := cell_of_row wz Bl 0 _ _ _ (hkz 60 (by decide) _ _ HES2.out.lb); have HPT := Lib.hid (HFT.out.push HES2.out.ho HMM.out hrz hgz hnz); clear hrz hgz hnz hbz hkz hzl)
    obtain ⟨hf3, hb3, hk3⟩ := HPT.out
    have hes3 := HES2.out.turn hb3 (hk3 _ (by decide) (by decide)) ⟨_, _, _, hf3⟩ (by simp; omega)
    have hfb3 := HFB2.out.keep (hk3 _ (by decide) (by decide))
    have hy3' := hk3 _ (by decide) (by decide) _ _ HY2.out
    refine gen_worldA (fun W3 => ES W0 w0 L lv toks e Bl Bo Bt W3 m (out ++ [Itm.mk 2 0 tw []]) todo ∧ FB y3 W3 ∧ W3.heap[y9]? = _) ⟨hes3, hfb3, hy3'⟩ ?_
    clear hf3 hb3 hk3 hes3 hfb3 hy3' HPT HES2 HFB2 HY2 HFT HR1 HGG HAA HMM HBO c91 c92 cl c0 c1 f1 lm1 fm1 clz lm hll h9l hbol hcn1 wz
    rintro W3 ⟨hes3, hfb3, hy3'⟩
    have cl := cell_of_row _ Bl 0 _ _ _ hes3.lb
    have lm := hes3.line.cells.2.1
    have fm := frozen_of_row W3 L 1 _ _ hes3.line.box
    have kL := (KB.refl (fun g => g = L) W3).setCell (p := ⟨L, 1, none⟩) (fun _ => rfl) (.int .i64 ((m + 1 : Nat) : Int))
    have HES3 := Lib.hid (hes3.lineN kL (hes3.line.setN (m + 1) (by omega)) (by omega)); have HFB3 := Lib.hid (FB.keep hfb3 (keepTy_kbL hes3.line kL _ (by decide))); have HY3 := Lib.hid (keepTy_kbL hes3.line kL 39 (by decide) _ _ hy3')
    clear hes3 hfb3 hy3' kL
    have hcm1 : (out ++ [Itm.mk 2 0 tw []]).length + todo.length ≤ m + 1 := by simp; omega
    go_wp2_with fail
    go_meet
    exact ⟨m + 1, out ++ [Itm.mk 2 0 tw []], rfl, HES3.out, HFB3.out, HY3.out, HRB.out, by omega, hcm1⟩
   -- <EF
   rw [if_neg hD] at hR2
   have hRn : R = none := hR2.symm
   clear hR2 HR
   by_cases hE : tk = 1
   ·subst hE
    have hA3 : verbW tw = false := by
     cases hvb : verbW tw with
     | false => rfl
     | true => exact absurd ⟨by decide, by decide, hvb⟩ hA
    have hD3 : nameW tw = false := by
     cases hvb : nameW tw with
     | false => rfl
     | true => exact absurd ⟨rfl, hvb⟩ hD
    rw [hA3] at HV
    have hnm := Name_any tw W (HTB.out.below (HES.out.line.size ▸ HES.out.line.below)) hshort
    rw [hD3] at hnm
    have HNM := Lib.hid hnm
    clear hnm hA HT
    go_upto_region 27 with (first
     | (go_at_call 62; refine (HV.out _).mono ?_; rintro e w' ⟨rfl, rfl⟩)
     | (go_at_call 37; refine HNM.out.mono ?_; rintro e wn ⟨rfl, hbn⟩; have HBN := Lib.hid hbn; clear hbn))
    have hes1 := HES.out.next HBN.out
    have hfb1 := HFB.out.keep (KeepTy.below HBN.out)
    have hy1 := block_below HY9.out HBN.out
    refine gen_worldA (fun W1 => ES W0 w0 L lv toks e Bl Bo Bt W1 m out todo ∧ FB y3 W1 ∧ W1.heap[y9]? = _) ⟨hes1, hfb1, hy1⟩ ?_
    clear hes1 hfb1 hy1 HBN HES HFB HY9 HNM HV c90 c91 c92 cl
    rintro W1 ⟨hes1, hfb1, hy1⟩
    have c90 := cell_of_row W1 y9 0 _ _ _ hy1
    have cl := cell_of_row _ Bl 0 _ _ _ hes1.lb
    have HES := Lib.hid hes1; have HFB := Lib.hid hfb1
    clear hes1 hfb1 hy1
    go_wp2_with fail
    refine (fault_any HES.out.line 41).mono ?_
    rintro _ wb ⟨⟨fa, rfl⟩, hbb⟩
    have HES3 := Lib.hid (HES.out.next hbb)
    have hfb := HFB.out.keep (KeepTy.below hbb)
    have c30 := cell_of_row wb y3 0 _ _ _ hfb
    have c31 := cell_of_row wb y3 1 _ _ _ hfb
    have f30 := frozen_of_row wb y3 0 _ _ hfb
    have f31 := frozen_of_row wb y3 1 _ _ hfb
    have HFB3 := Lib.hid hfb
    clear hfb hbb
    dsimp only
    go_wp2_with fail
    obtain ⟨z1, z2, z3, -⟩ := fb_set HES3.out HFB3.out hy3 _ _ _ (.inl rfl)
    exact bodyPost_ret (results_expr y3 rfl rfl z1 (by kernel_rfl)) rfl ⟨z2, _, _, _, m, rfl, z3, by rw [hRn]; exact ⟨by decide, rfl⟩⟩
   have q1 : (tk == 1) = false := by rw [beq_eq_false_iff_ne]; exact hE
   have q2 : (tk == 2) = false := by rw [beq_eq_false_iff_ne]; exact hC2
   have p2 : (tk != 2) = true := by simpa using hC2
   by_cases hF4 : tk = 4
   ·subst hF4
    clear hA HT hD hE q1 q2 p2 hC2
    go_wp2_with fail
    refine (fault_any HES.out.line 42).mono ?_
    rintro _ wb ⟨⟨fa, rfl⟩, hbb⟩
    have HES3 := Lib.hid (HES.out.next hbb)
    have hfb := HFB.out.keep (KeepTy.below hbb)
    have c30 := cell_of_row wb y3 0 _ _ _ hfb
    have c31 := cell_of_row wb y3 1 _ _ _ hfb
    have f30 := frozen_of_row wb y3 0 _ _ hfb
    have f31 := frozen_of_row wb y3 1 _ _ hfb
    have HFB3 := Lib.hid hfb
    clear hfb hbb
    dsimp only
    go_wp2_with fail
    obtain ⟨z1, z2, z3, -⟩ := fb_set HES3.out HFB3.out hy3 _ _ _ (.inl rfl)
    exact bodyPost_ret (results_expr y3 rfl rfl z1 (by kernel_rfl)) rfl ⟨z2, _, _, _, m, rfl, z3, by rw [hRn]; exact ⟨by decide, rfl⟩⟩
   have p4 : (tk != 4) = true := by simpa using hF4
   have hA3 : verbW tw = false := by
    cases hvb : verbW tw with
    | false => rfl
    | true => exact absurd ⟨hC2, hF4, hvb⟩ hA
   rw [hA3] at HV
   by_cases h3 : tk = 3
   ·subst h3
    have h40 : (tw == [40]) = false := by rw [beq_eq_false_iff_ne]; exact fun h => hB ⟨rfl, h⟩
    clear hA HT hD
    go_wp2_with (go_at_call 62; refine (HV.out _).mono ?_; rintro e w' ⟨rfl, rfl⟩)
    refine (fault_any HES.out.line 42).mono ?_
    rintro _ wb ⟨⟨fa, rfl⟩, hbb⟩
    have HES3 := Lib.hid (HES.out.next hbb)
    have hfb := HFB.out.keep (KeepTy.below hbb)
    have c30 := cell_of_row wb y3 0 _ _ _ hfb
    have c31 := cell_of_row wb y3 1 _ _ _ hfb
    have f30 := frozen_of_row wb y3 0 _ _ hfb
    have f31 := frozen_of_row wb y3 1 _ _ hfb
    have HFB3 := Lib.hid hfb
    clear hfb hbb
    dsimp only
    go_wp2_with fail
    obtain ⟨z1, z2, z3, -⟩ := fb_set HES3.out HFB3.out hy3 _ _ _ (.inl rfl)
    exact bodyPost_ret (results_expr y3 rfl rfl z1 (by kernel_rfl)) rfl ⟨z2, _, _, _, m, rfl, z3, by rw [hRn]; exact ⟨by decide, rfl⟩⟩
   have q3 : (tk == 3) = false := by rw [beq_eq_false_iff_ne]; exact h3
   clear hA HT hD
   go_wp2_with (go_at_call 62; refine (HV.out _).mono ?_; rintro e w' ⟨rfl, rfl⟩)
   refine (fault_any HES.out.line 42).mono ?_
   rintro _ wb ⟨⟨fa, rfl⟩, hbb⟩
   have HES3 := Lib.hid (HES.out.next hbb)
   have hfb := HFB.out.keep (KeepTy.below hbb)
   have c30 := cell_of_row wb y3 0 _ _ _ hfb
   have c31 := cell_of_row wb y3 1 _ _ _ hfb
   have f30 := frozen_of_row wb y3 0 _ _ hfb
   have f31 := frozen_of_row wb y3 1 _ _ hfb
   have HFB3 := Lib.hid hfb
   clear hfb hbb
   dsimp only
   go_wp2_with fail
   obtain ⟨z1, z2, z3, -⟩ := fb_set HES3.out HFB3.out hy3 _ _ _ (.inl rfl)
   exact bodyPost_ret (results_expr y3 rfl rfl z1 (by kernel_rfl)) rfl ⟨z2, _, _, _, m, rfl, z3, by rw [hRn]; exact ⟨by decide, rfl⟩⟩
   -- EF>
  case rest =>
   obtain ⟨m1, out1, rfl, hes, hfb, hy9, hRB, hmm1, hcm1⟩ := hcut
   have HES := Lib.hid hes; have HFB := Lib.hid hfb; have HY9 := Lib.hid hy9; have HRB := Lib.hid hRB
   clear hes hfb hy9 hRB HR HT
   have cl := cell_of_row _ Bl 0 _ _ _ HES.out.lb
   have hpk := peek_any HES.out.line
   obtain ⟨t, ht⟩ : ∃ t, headT (restT toks m1) = t := ⟨_, rfl⟩
   rw [ht] at hpk
   unfold tkV at hpk
   have HPK := Lib.hid hpk; have HT := Lib.hid ht
   clear hpk ht
   go_wp2_with fail
   refine HPK.out.mono ?_
   rintro _ wa ⟨⟨b9, rfl⟩, hba⟩
   have hes := HES.out.next hba
   have hfb := HFB.out.keep (KeepTy.below hba)
   have hy9 := block_below HY9.out hba
   have HES1 := Lib.hid hes; have HFB1 := Lib.hid hfb; have HY1 := Lib.hid hy9
   clear hes hfb hy9 hba HPK HES HFB HY9 cl
   dsimp only
   go_upto_block 5 with ((with_reducible show wpList _ _ _ ({ dst := none, op := Op.store 39 (.tmp 9) (.tmp _), type := _, pos := _, after := _, guard := _ } :: _) _ _); (refine wpList_storeW rfl 39 _ _ rfl y9 rfl _ _ rfl _ HY1.out (by kernel_rfl) (by rfl) (by rfl) ?_); intro w5 hr5 hg5)
   have hes := HES1.out.setTok hg5 HY1.out hlt9 (by decide)
   have hfb := HFB1.out.keep (KeepTy.grown hg5 (fun g e => by cases e; exact NotTy.of HY1.out (show 39 ≠ 28 by decide)))
   have HES := Lib.hid hes; have HFB := Lib.hid hfb; have HY9 := Lib.hid hr5
   have hcl := hes.line.hn
   clear hes hfb hr5 hg5 HES1 HFB1 HY1
   obtain ⟨C, hC⟩ : ∃ C, closeP (restT toks m1) out1 todo k = C := ⟨_, rfl⟩
   have HC := Lib.hid hC; have HCC := Lib.hid hC
   clear hC
   dsimp only [Act.put]
   go_cut [6] from 126 to 155 (fun s6 wx => ∃ (m2 k2 : Nat) (out2 : List Itm) (todo2 : List (Option Itm)) (a2 uk : Int) (uw : Str) (un : Int), s6 = .int .i64 (k2 : Int) ∧ k2 = noneN todo2 ∧ ES W0 w0 L lv toks e Bl Bo Bt wx m2 out2 todo2 ∧ FB y3 wx ∧ headT (restT toks m2) = ⟨uk, uw, un⟩ ∧ wx.heap[y9]? = some (.cells #[.int .i64 uk, .int .i64 a2, .string (str uw), .int .i64 un] 39 (0, 0)) ∧ out2.length + todo2.length ≤ m2 ∧ m1 ≤ m2 ∧ behQ VV exprC ⟨uk, uw, un⟩ ⟨restT toks m2, out2, todo2, k2⟩ = R)
   case first =>
    go_wp2_with fail
    go_loopw [6] (fun o wr => ∃ (m2 k2 : Nat) (out2 : List Itm) (todo2 : List (Option Itm)) (a2 : Int), o = .int .i64 (k2 : Int) ∧ k2 = noneN todo2 ∧ ES W0 w0 L lv toks e Bl Bo Bt wr m2 out2 todo2 ∧ FB y3 wr ∧ wr.heap[y9]? = some (.cells #[.int .i64 (headT (restT toks m2)).kind, .int .i64 a2, .string (str (headT (restT toks m2)).word), .int .i64 (headT (restT toks m2)).n] 39 (0, 0)) ∧ out2.length + todo2.length ≤ m2 ∧ m1 ≤ m2 ∧ closeP (restT toks m2) out2 todo2 k2 = C) (fun _ wr => toks.length - (Lib.intOf ((wr.cell? ⟨L, 1, none⟩).getD undef)).toNat)
    case atStart => exact ⟨m1, k, out1, todo, b9, rfl, HK.out, HES.out, HFB.out, by rw [HT.out]; exact HY9.out, hcm1, Nat.le_refl _, HC.out⟩
    case round =>
     clear HES HFB HY9 HC HK HT
     obtain ⟨m2, k2, out2, todo2, a2, rfl, hk2, hes, hfb, hy9, hcm2, hm12, hC⟩ := hrel
     have hbeh := HRB.out
     rw [exprC_beh] at hbeh
     dsimp only at hbeh
     rw [HCC.out] at hbeh
     obtain ⟨t2, ht2⟩ : ∃ t2, headT (restT toks m2) = t2 := ⟨_, rfl⟩
     rw [ht2] at hy9
     obtain ⟨uk, uw, un⟩ := t2
     dsimp only at hy9
     have c90 := cell_of_row wr y9 0 _ _ _ hy9
     have c92 := cell_of_row wr y9 2 _ _ _ hy9
     have hm2 := hes.line.cells.2.1
     have hm2n := hes.line.hn
     have hk64 : k2 ≤ 65536 := by have := nones_le todo2; omega
     have cl := cell_of_row _ Bl 0 _ _ _ hes.lb
     have HES := Lib.hid hes; have HFB := Lib.hid hfb; have HY9 := Lib.hid hy9; have HT := Lib.hid ht2; have HC := Lib.hid hC; have HB := Lib.hid hbeh; have HK := Lib.hid hk2; have HM2 := Lib.hid hm2
     clear hes hfb hy9 ht2 hC hbeh hk2 hm2
     by_cases hcl2 : 0 < k2 ∧ uk = 3 ∧ uw = [41]
     ·obtain ⟨hk0, rfl, rfl⟩ := hcl2
      have hlt2 := head_lt HT.out (show (3 : Int) ≠ 4 by decide)
      have hrc2 := head_cons HT.out hlt2
      have qk : decide (0 < (k2 : Int)) = true := decide_eq_true (by omega)
      obtain ⟨kp, rfl⟩ : ∃ kp, k2 = kp + 1 := ⟨k2 - 1, by omega⟩
      have hC2 : closeP (restT toks (m2 + 1)) (finishP out2 todo2).1 (finishP out2 todo2).2.tail kp = C := by rw [← HC.out, hrc2, close_step (by rfl)]
      obtain ⟨rr, hr1, hr2⟩ := finish_nones out2 todo2 (by rw [← HK.out]; omega)
      have hsum := finish_sum out2 todo2
      have hfin := fin_any HES.out.st (by omega) HES.out.ho HES.out.ht HES.out.lt
      rw [hr1] at hfin hsum hC2
      generalize (finishP out2 todo2).1 = out3 at hfin hsum hC2
      rw [List.tail_cons] at hC2
      rw [List.length_cons] at hsum
      have HFIN := Lib.hid hfin; have HC2 := Lib.hid hC2; have HRR := Lib.hid hr2
      clear hfin hC2 hr1 hr2 HC hrc2 HB
      go_wp2_with fail
      refine HFIN.out.mono ?_
      rintro _ wf ⟨rfl, hft, hbf, hkf⟩
      have hes1 := HES.out.turn hbf (hkf _ (by decide) (by decide) (by decide)) hft (by simp; omega)
      have hfb1 := HFB.out.keep (hkf _ (by decide) (by decide) (by decide))
      have hy1 := hkf _ (by decide) (by decide) (by decide) _ _ HY9.out
      clear HES HFB HY9 hbf hkf hft HFIN cl c90 c92
      obtain ⟨ov, tv, cs, hft⟩ := hes1.st
      have hft : FTx _ _ _ _ ov tv cs out3 (none :: rr) := hft
      have cb0 := cell_of_row wf Bt 0 _ _ _ hft.2.box
      have fb0 := frozen_of_row wf Bt 0 _ _ hft.2.box
      obtain ⟨g, cap, vs, rfl, hcap, hcm', hft2, hbp, hkp⟩ := hft.pop hes1.ht
      have hes2 := hes1.turn hbp (hkp _ (by decide)) ⟨_, _, _, hft2⟩ (by omega)
      have hfb2 := hfb1.keep (hkp _ (by decide))
      have hy2 := hkp _ (by decide) _ _ hy1
      have HES := Lib.hid hes2; have HFB := Lib.hid hfb2; have HY9 := Lib.hid hy2
      clear hft hft2 hbp hkp hes1 hes2 hfb1 hfb2 hy1 hy2
      dsimp only
      go_upto_region 34 with fail
      refine gen_worldA (fun W => ES W0 w0 L lv toks e Bl Bo Bt W m2 out3 rr ∧ FB y3 W ∧ W.heap[y9]? = _) ⟨HES.out, HFB.out, HY9.out⟩ ?_
      clear HES HFB HY9 cb0 fb0
      rintro W4 ⟨hes, hfb, hy9⟩
      have cl := cell_of_row _ Bl 0 _ _ _ hes.lb
      have lm := hes.line.cells.2.1
      have fm := frozen_of_row W4 L 1 _ _ hes.line.box
      have kL := (KB.refl (fun g => g = L) W4).setCell (p := ⟨L, 1, none⟩) (fun _ => rfl) (.int .i64 ((m2 + 1 : Nat) : Int))
      have HES := Lib.hid (hes.lineN kL (hes.line.setN (m2 + 1) (by omega)) (by omega)); have HFB := Lib.hid (FB.keep hfb (keepTy_kbL hes.line kL _ (by decide))); have HY9 := Lib.hid (keepTy_kbL hes.line kL 39 (by decide) _ _ hy9)
      clear hes hfb hy9 kL
      go_upto_region 31 with fail
      refine gen_worldA (fun W => ES W0 w0 L lv toks e Bl Bo Bt W (m2 + 1) out3 rr ∧ FB y3 W ∧ W.heap[y9]? = _) ⟨HES.out, HFB.out, HY9.out⟩ ?_
      clear HES HFB HY9 cl lm fm
      rintro W5 ⟨hes, hfb, hy9⟩
      have cl := cell_of_row _ Bl 0 _ _ _ hes.lb
      have hpk := peek_any hes.line
      unfold tkV at hpk
      have HPK := Lib.hid hpk; have HES := Lib.hid hes; have HFB := Lib.hid hfb; have HY9 := Lib.hid hy9
      clear hpk hes hfb hy9
      go_wp2_with fail
      refine HPK.out.mono ?_
      rintro _ wa ⟨⟨b9, rfl⟩, hba⟩
      have hes := HES.out.next hba
      have hfb := HFB.out.keep (KeepTy.below hba)
      have hy9 := block_below HY9.out hba
      have HES1 := Lib.hid hes; have HFB1 := Lib.hid hfb; have HY1 := Lib.hid hy9
      clear hes hfb hy9 hba HPK HES HFB HY9 cl
      dsimp only
      go_wp2_with ((with_reducible show wpList _ _ _ ({ dst := none, op := Op.store 39 (.tmp 9) (.tmp _), type := _, pos := _, after := _, guard := _ } :: _) _ _); (refine wpList_storeW rfl 39 _ _ rfl y9 rfl _ _ rfl _ HY1.out (by kernel_rfl) (by rfl) (by rfl) ?_); intro w6 hr6 hg6)
      have hes := HES1.out.setTok hg6 HY1.out hlt9 (by decide)
      have hfb := HFB1.out.keep (KeepTy.grown hg6 (fun g e => by cases e; exact NotTy.of HY1.out (show 39 ≠ 28 by decide)))
      have HES := Lib.hid hes; have HFB := Lib.hid hfb; have HY9 := Lib.hid hr6
      have HCN := Lib.hid hes.line.cells.2.1
      clear hes hfb hr6 hg6 HES1 HFB1 HY1
      dsimp only [Act.put]
      go_roundw
      case rel => exact ⟨m2 + 1, kp, out3, rr, b9, by go_num, by have := HK.out; have := HRR.out; omega, HES.out, HFB.out, HY9.out, by omega, by omega, HC2.out⟩
      case measure => rw [HM2.out, HCN.out]; simp [Lib.intOf]; omega
     ·have hst : closeP (restT toks m2) out2 todo2 k2 = ⟨restT toks m2, out2, todo2, k2⟩ := close_stop (by
       rw [HT.out]
       unfold isSign
       dsimp only
       by_cases h0 : k2 = 0
       ·exact .inl h0
       ·refine .inr ?_
        cases hh : ((uk == 3 && decide (uw = [41])) : Bool) with
        | false => rfl
        | true => exact absurd ⟨by omega, by simpa using hh⟩ hcl2)
      have hB2 := HB.out
      rw [← HC.out, hst] at hB2
      dsimp only at hB2
      rw [HT.out] at hB2
      have HB2 := Lib.hid hB2
      clear hB2 hst HC HB
      by_cases hk0 : k2 = 0
      ·have qk : decide (0 < (k2 : Int)) = false := decide_eq_false (by omega)
       go_wp2_with fail
       go_meet
       exact ⟨m2, k2, out2, todo2, a2, uk, uw, un, by first | rfl | (rw [hk0]; rfl), HK.out, HES.out, HFB.out, HT.out, HY9.out, hcm2, hm12, HB2.out⟩
      ·have qk : decide (0 < (k2 : Int)) = true := decide_eq_true (by omega)
       by_cases hu3 : uk = 3
       ·have hu41 : (uw == [41]) = false := by rw [beq_eq_false_iff_ne]; exact fun h => hcl2 ⟨by omega, hu3, h⟩
        have q3 : (uk == 3) = true := by rw [hu3]; rfl
        go_wp2_with fail
        go_meet
        exact ⟨m2, k2, out2, todo2, a2, uk, uw, un, rfl, HK.out, HES.out, HFB.out, HT.out, HY9.out, hcm2, hm12, HB2.out⟩
       ·have q3 : (uk == 3) = false := by rw [beq_eq_false_iff_ne]; exact hu3
        go_wp2_with fail
        go_meet
        exact ⟨m2, k2, out2, todo2, a2, uk, uw, un, rfl, HK.out, HES.out, HFB.out, HT.out, HY9.out, hcm2, hm12, HB2.out⟩
   case rest =>
    clear HES HFB HY9 HT HC HCC HRB HK
    obtain ⟨m2, k2, out2, todo2, a2, uk, uw, un, rfl, hk2, hes, hfb, ht2, hy9, hcm2, hm12, hB2⟩ := hcut
    have c90 := cell_of_row _ y9 0 _ _ _ hy9
    have c92 := cell_of_row _ y9 2 _ _ _ hy9
    have hm2n := hes.line.hn
    have hk64 : k2 ≤ 65536 := by have := nones_le todo2; omega
    have cl := cell_of_row _ Bl 0 _ _ _ hes.lb
    have hv2 := fun w => verb_any uw w
    have HES := Lib.hid hes; have HFB := Lib.hid hfb; have HY9 := Lib.hid hy9; have HT := Lib.hid ht2; have HK := Lib.hid hk2; have HV2 := Lib.hid hv2
    clear hes hfb hy9 ht2 hk2 hv2
    unfold behQ at hB2
    dsimp only at hB2
    by_cases hu4 : uk = 4
    ·have q4 : (uk == 4) = true := by rw [hu4]; rfl
     rw [if_pos hu4] at hB2
     by_cases hk0 : k2 = 0
     ·have qk : decide (0 < (k2 : Int)) = false := decide_eq_false (by omega)
      rw [if_neg (by omega)] at hB2
      have hRs := Lib.hid hB2; have HSUM := Lib.hid (finish_sum out2 todo2)
      have hfin := fin_any HES.out.st (by omega) HES.out.ho HES.out.ht HES.out.lt
      generalize (finishP out2 todo2).1 = out3 at hfin hRs HSUM
      generalize (finishP out2 todo2).2 = todo3 at hfin HSUM
      have HFIN := Lib.hid hfin
      clear hfin hB2
      go_wp2_with fail
      refine HFIN.out.mono ?_
      rintro _ wf ⟨rfl, hft, hbf, hkf⟩
      have hes1 := HES.out.turn hbf (hkf _ (by decide) (by decide) (by decide)) hft (by have := HSUM.out; omega)
      have hfb := HFB.out.keep (hkf _ (by decide) (by decide) (by decide))
      obtain ⟨ov, tv, cs, hoi, hti⟩ := hft
      have cbo := cell_of_row wf Bo 0 _ _ _ hoi.box
      have hrow := hoi.row
      obtain ⟨oa, oc, rfl⟩ := hrow.form
      have c30 := cell_of_row wf y3 0 _ _ _ hfb
      have c31 := cell_of_row wf y3 1 _ _ _ hfb
      have f30 := frozen_of_row wf y3 0 _ _ hfb
      have f31 := frozen_of_row wf y3 1 _ _ hfb
      have HES3 := Lib.hid hes1; have HFB3 := Lib.hid hfb; have HRW := Lib.hid hrow
      clear hes1 hfb hoi hti hrow hbf hkf HES HFB HY9 HFIN cl c90 c92
      dsimp only
      go_wp2_with fail
      obtain ⟨z1, z2, z3, z4⟩ := fb_set HES3.out HFB3.out hy3 _ _ _ (.inl rfl)
      refine bodyPost_ret (results_expr y3 rfl rfl z1 (by kernel_rfl)) rfl ⟨z2, _, _, _, m2, rfl, z3, ?_⟩
      rw [← hRs.out]
      exact ⟨rfl, rfl, HRW.out.same (fun cs x ⟨a, v, e, h⟩ => ⟨a, v, e, h.keepTy (z4 _ (by decide))⟩) (z4 _ (by decide))⟩
     ·have qk : decide (0 < (k2 : Int)) = true := decide_eq_true (by omega)
      rw [if_pos (by omega)] at hB2
      have hRn : R = none := hB2.symm
      clear hB2
      go_wp2_with fail
      refine (fault_any HES.out.line 42).mono ?_
      rintro _ wb ⟨⟨fa, rfl⟩, hbb⟩
      have HES3 := Lib.hid (HES.out.next hbb)
      have hfb := HFB.out.keep (KeepTy.below hbb)
      have c30 := cell_of_row wb y3 0 _ _ _ hfb
      have c31 := cell_of_row wb y3 1 _ _ _ hfb
      have f30 := frozen_of_row wb y3 0 _ _ hfb
      have f31 := frozen_of_row wb y3 1 _ _ hfb
      have HFB3 := Lib.hid hfb
      clear hfb hbb
      dsimp only
      go_wp2_with fail
      obtain ⟨z1, z2, z3, -⟩ := fb_set HES3.out HFB3.out hy3 _ _ _ (.inl rfl)
      exact bodyPost_ret (results_expr y3 rfl rfl z1 (by kernel_rfl)) rfl ⟨z2, _, _, _, m2, rfl, z3, by rw [hRn]; exact ⟨by decide, rfl⟩⟩
    ·rw [if_neg hu4] at hB2
     have q4 : (uk == 4) = false := by rw [beq_eq_false_iff_ne]; exact hu4
     by_cases hu2 : uk = 2
     ·skip
      have q2 : (uk == 2) = true := by rw [hu2]; rfl
      rw [if_pos (.inl hu2)] at hB2
      have hRn : R = none := hB2.symm
      clear hB2
      go_wp2_with fail
      refine (fault_any HES.out.line 46).mono ?_
      rintro _ wb ⟨⟨fa, rfl⟩, hbb⟩
      have HES3 := Lib.hid (HES.out.next hbb)
      have hfb := HFB.out.keep (KeepTy.below hbb)
      have c30 := cell_of_row wb y3 0 _ _ _ hfb
      have c31 := cell_of_row wb y3 1 _ _ _ hfb
      have f30 := frozen_of_row wb y3 0 _ _ hfb
      have f31 := frozen_of_row wb y3 1 _ _ hfb
      have HFB3 := Lib.hid hfb
      clear hfb hbb
      dsimp only
      go_wp2_with fail
      obtain ⟨z1, z2, z3, -⟩ := fb_set HES3.out HFB3.out hy3 _ _ _ (.inl rfl)
      exact bodyPost_ret (results_expr y3 rfl rfl z1 (by kernel_rfl)) rfl ⟨z2, _, _, _, m2, rfl, z3, by rw [hRn]; exact ⟨by decide, rfl⟩⟩
      all_goals skip
     ·skip
      have q2 : (uk == 2) = false := by rw [beq_eq_false_iff_ne]; exact hu2
      cases hvf : verbW uw with
      | false =>
       rw [if_pos (.inr hvf)] at hB2
       have hRn : R = none := hB2.symm
       clear hB2
       rw [hvf] at HV2
       go_wp2_with (go_at_call 62; refine (HV2.out _).mono ?_; rintro e w' ⟨rfl, rfl⟩)
       refine (fault_any HES.out.line 46).mono ?_
       rintro _ wb ⟨⟨fa, rfl⟩, hbb⟩
       have HES3 := Lib.hid (HES.out.next hbb)
       have hfb := HFB.out.keep (KeepTy.below hbb)
       have c30 := cell_of_row wb y3 0 _ _ _ hfb
       have c31 := cell_of_row wb y3 1 _ _ _ hfb
       have f30 := frozen_of_row wb y3 0 _ _ hfb
       have f31 := frozen_of_row wb y3 1 _ _ hfb
       have HFB3 := Lib.hid hfb
       clear hfb hbb
       dsimp only
       go_wp2_with fail
       obtain ⟨z1, z2, z3, -⟩ := fb_set HES3.out HFB3.out hy3 _ _ _ (.inl rfl)
       exact bodyPost_ret (results_expr y3 rfl rfl z1 (by kernel_rfl)) rfl ⟨z2, _, _, _, m2, rfl, z3, by rw [hRn]; exact ⟨by decide, rfl⟩⟩
      | true =>
       rw [if_neg (by rintro (h | h); exact hu2 h; rw [show VV.verb uw = true from hvf] at h; cases h)] at hB2
       rw [hvf] at HV2
       have hlt2 := head_lt HT.out hu4
       have hla := later_any HES.out hlt2 true
       obtain ⟨P, hP⟩ : ∃ P, phraseP VV true (restT toks m2) = P := ⟨_, rfl⟩
       rw [hP] at hB2 hla
       have HLA := Lib.hid hla; have HR2 := Lib.hid hB2
       clear hla hB2 hP HT
       go_wp2_with (go_at_call 62; refine (HV2.out _).mono ?_; rintro e w' ⟨rfl, rfl⟩)
       refine HLA.out.mono ?_
       rintro _ wb ⟨i, fa, fx, m', rfl, hmm, hes, hpm, hkt⟩
       have hfb := HFB.out.keep (hkt _ (by decide) (by decide) (by decide))
       have c30 := cell_of_row wb y3 0 _ _ _ hfb
       have c31 := cell_of_row wb y3 1 _ _ _ hfb
       have f30 := frozen_of_row wb y3 0 _ _ hfb
       have f31 := frozen_of_row wb y3 1 _ _ hfb
       have hb3 := block_lt hfb
       have HES3 := Lib.hid hes; have HFB3 := Lib.hid hfb
       have hes' := hes.alloc (.cells #[.int .i64 fa, .int .i64 fx] 28)
       have hfb' : FB y3 (wb.alloc (.cells #[.int .i64 fa, .int .i64 fx] 28)) := hfb.keep (KeepTy.below ((Below.refl _ _).alloc (Nat.le_refl _) _))
       have HES2 := Lib.hid hes'; have HFB2 := Lib.hid hfb'; have HPM := Lib.hid hpm
       clear hes hes' hfb hfb' hpm hkt HES HFB HY9 cl c90 c92 HLA HV2
       dsimp only
       cases P with
       | none =>
        have hfx : (fx == 0) = false := HPM.out
        have hRn : R = none := HR2.out.symm
        go_upto_region 45 with fail
        go_region
        go_wp2_with fail
        obtain ⟨z1, z2, z3, -⟩ := fb_set HES3.out HFB3.out hy3 _ _ _ (.inr (.inr (.inl ⟨_, rfl⟩)))
        exact bodyPost_ret (results_expr y3 rfl rfl z1 (by kernel_rfl)) rfl ⟨z2, _, _, _, m', rfl, z3, by rw [hRn]; exact ⟨hfx, rfl⟩⟩
       | some p =>
        obtain ⟨rfl, hq, rfl, rfl⟩ : p.1 = i ∧ p.2 = restT toks m' ∧ fa = 0 ∧ fx = 0 := HPM.out
        have hR3 : exprC true ⟨restT toks m', out2, some p.1 :: todo2, k2⟩ = R := by rw [← HR2.out, ← hq]; rfl
        have HR3 := Lib.hid hR3
        have HCN := Lib.hid HES2.out.line.cells.2.1
        have hm' := HES2.out.line.hn
        clear hR3 HR2 HPM hq
        go_wp2_with fail
        go_roundw
        case rel => exact ⟨m', k2, out2, some p.1 :: todo2, by first | rfl | (rw [hk0]; rfl), HK.out, HES2.out, HFB2.out, by simp; omega, HR3.out⟩
        case measure => rw [HM1.out, HCN.out]; simp [Lib.intOf]; omega
   all_goals skip
end Go.Proofs.YtokghjnkfabgiaaGreatDoor
