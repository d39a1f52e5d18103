import Derived.Test.YtokghjnkfabgiaaGreatDoorTD17
set_option linter.unusedVariables false
set_option linter.unusedSimpArgs false
set_option maxRecDepth 100000
namespace Go.Proofs.YtokghjnkfabgiaaGreatDoor
open Go.RowKit Go.Lib
attribute [local go_sem] str_size str_get str_toList

section
variable {W0 w w' : World} {L n : Nat} {lv : Value} {toks : List (Tk × Nat)} {e : Int}
theorem LineI.kb (h : LineI W0 L lv toks e w n) {S : Nat → Prop} (hk : KB S w w') (hS : ∀ g, S g → L < g) : LineI W0 L lv toks e w' n :=
 ⟨h.size, h.below.trans (hk.below (Nat.le_of_lt h.lt) (fun g hg => Nat.le_of_lt (hS g hg))), h.row, (hk.block L h.lt (fun hg => Nat.lt_irrefl _ (hS L hg))).trans h.box, h.hn, h.small, h.right⟩
theorem LineI.setN (h : LineI W0 L lv toks e w n) (m : Nat) (hm : m ≤ toks.length) : LineI W0 L lv toks e (w.setCell ⟨L, 1, none⟩ (.int .i64 (m : Int))) m :=
 ⟨h.size, h.below.setCell (p := ⟨L, 1, none⟩) (Nat.le_refl _) _, h.row, set_block h.box, hm, h.small, h.right⟩
theorem LineI.set (h : LineI W0 L lv toks e w n) {g k : Nat} (hg : L < g) (v : Value) : LineI W0 L lv toks e (w.setCell ⟨g, k, none⟩ v) n :=
 h.kb (S := fun x => x = g) ((KB.refl (fun x => x = g) _).setCell (p := ⟨g, k, none⟩) (fun _ => rfl) v) (fun x hx => by subst hx; exact hg)
theorem LineI.alloc (h : LineI W0 L lv toks e w n) (o : Obj) : LineI W0 L lv toks e (w.alloc o) n := h.next ((Below.refl _ _).alloc (Nat.le_refl _) o)
end
theorem rest_tail {toks : List (Tk × Nat)} {n : Nat} : (restT toks n).tail = restT toks (n + 1) := by unfold restT; rw [← List.map_tail, List.tail_drop]
theorem kbL_next {S : Nat → Prop} {w W W' : World} (h : KB S w W) (hb : Below W.heap.size W W') : KB S w W' := h.then_below hb (fun g h1 h2 => absurd (Nat.lt_of_lt_of_le h2 h.size) (by omega))
structure PhS (w W : World) (L y4 y5 y6 y7 y8 : Nat) (c6 c7 c8 : Array Value) : Prop where
 kb : KB (fun g => g = L) w W
 b4 : W.heap[y4]? = some (.cells #[.int .i64 0, .int .i64 0, .int .u8 0, .string ⟨#[]⟩, .slice none 0 0] 121 (0, 0))
 b5 : W.heap[y5]? = some (.cells #[.int .i64 0, .int .i64 0] 28 (0, 0))
 b6 : W.heap[y6]? = some (.cells c6 39 (0, 0))
 b7 : W.heap[y7]? = some (.cells c7 28 (0, 0))
 b8 : W.heap[y8]? = some (.cells c8 121 (0, 0))
 l4 : L < y4
 hw : w.heap.size ≤ y4
 l5 : y4 < y5
 l6 : y5 < y6
 l7 : y6 < y7
 l8 : y7 < y8
section
variable {w W W' : World} {L y4 y5 y6 y7 y8 : Nat} {c6 c7 c8 : Array Value}
theorem PhS.next (h : PhS w W L y4 y5 y6 y7 y8 c6 c7 c8) (hb : Below W.heap.size W W') : PhS w W' L y4 y5 y6 y7 y8 c6 c7 c8 :=
 ⟨kbL_next h.kb hb, block_below h.b4 hb, block_below h.b5 hb, block_below h.b6 hb, block_below h.b7 hb, block_below h.b8 hb, h.l4, h.hw, h.l5, h.l6, h.l7, h.l8⟩
theorem PhS.set8 (h : PhS w W L y4 y5 y6 y7 y8 c6 c7 c8) (k : Nat) (v : Value) : PhS w (W.setCell ⟨y8, k, none⟩ v) L y4 y5 y6 y7 y8 c6 c7 (c8.setIfInBounds k v) := by
 have h4 := h.l4; have h5 := h.l5; have h6 := h.l6; have h7 := h.l7; have h8 := h.l8; have h9 := h.hw
 exact ⟨h.kb.setCell (p := ⟨y8, k, none⟩) (fun hl => absurd hl (by show ¬ y8 < _; omega)) v, block_other h.b4 (show y8 ≠ y4 by omega) v, block_other h.b5 (show y8 ≠ y5 by omega) v, block_other h.b6 (show y8 ≠ y6 by omega) v, block_other h.b7 (show y8 ≠ y7 by omega) v, set_block h.b8, h4, h9, h5, h6, h7, h8⟩
theorem PhS.setL (h : PhS w W L y4 y5 y6 y7 y8 c6 c7 c8) (k : Nat) (v : Value) : PhS w (W.setCell ⟨L, k, none⟩ v) L y4 y5 y6 y7 y8 c6 c7 c8 := by
 have h4 := h.l4; have h5 := h.l5; have h6 := h.l6; have h7 := h.l7; have h8 := h.l8; have h9 := h.hw
 exact ⟨h.kb.setCell (p := ⟨L, k, none⟩) (fun _ => rfl) v, block_other h.b4 (show L ≠ y4 by omega) v, block_other h.b5 (show L ≠ y5 by omega) v, block_other h.b6 (show L ≠ y6 by omega) v, block_other h.b7 (show L ≠ y7 by omega) v, block_other h.b8 (show L ≠ y8 by omega) v, h4, h9, h5, h6, h7, h8⟩
end
theorem phS_new {w w1 w2 : World} {L : Nat} (hL : L < w.heap.size) {c6 c7 c8 : Array Value} {v : Value}
  (hb1 : Below ((w.alloc (.cells #[.int .i64 0, .int .i64 0, .int .u8 0, .string ⟨#[]⟩, .slice none 0 0] 121)).alloc (.cells #[.int .i64 0, .int .i64 0] 28)).heap.size ((w.alloc (.cells #[.int .i64 0, .int .i64 0, .int .u8 0, .string ⟨#[]⟩, .slice none 0 0] 121)).alloc (.cells #[.int .i64 0, .int .i64 0] 28)) w1)
  (hb2 : Below (w1.alloc (.cells c6 39)).heap.size (w1.alloc (.cells c6 39)) w2) :
  PhS w (((w2.setCell ⟨L, 1, none⟩ v).alloc (.cells c7 28)).alloc (.cells c8 121)) L w.heap.size (w.heap.size + 1) w1.heap.size w2.heap.size (w2.heap.size + 1) c6 c7 c8 := by
 obtain ⟨x4, x5⟩ := new2 hb1
 have hs1 : w.heap.size + 2 ≤ w1.heap.size := by have := hb1.size; simp at this; omega
 have hs2 : w1.heap.size + 1 ≤ w2.heap.size := by have := hb2.size; simp at this; omega
 have x6 := new1 hb2
 have hb1' : Below w1.heap.size w1 w2 := ((Below.refl _ _).alloc (Nat.le_refl _) _).trans (hb2.mono (by simp))
 have e4 := block_below x4 hb1'
 have e5 := block_below x5 hb1'
 have k1 : KB (fun g => g = L) w w1 := kbL_next (((KB.refl _ w).alloc _).alloc _) hb1
 have k2 := ((kbL_next (k1.alloc _) hb2).setCell (p := ⟨L, 1, none⟩) (fun _ => rfl) v).alloc (.cells c7 28)
 have q : ∀ {g : Nat} {cs : Array Value} {t : TypeId}, g ≠ L → w2.heap[g]? = some (.cells cs t (0, 0)) → (((w2.setCell ⟨L, 1, none⟩ v).alloc (.cells c7 28)).alloc (.cells c8 121)).heap[g]? = some (.cells cs t (0, 0)) := fun hg h => heap_alloc (heap_alloc (block_other h (Ne.symm hg) v) _) _
 refine ⟨k2.alloc _, q (by omega) e4, q (by omega) e5, q (by omega) x6, heap_alloc (by simpa using World.alloc_heap_new (w2.setCell ⟨L, 1, none⟩ v) (.cells c7 28)) _, ?_, hL, Nat.le_refl _, by omega, by omega, by omega, by omega⟩
 have h := World.alloc_heap_new ((w2.setCell ⟨L, 1, none⟩ v).alloc (.cells c7 28)) (.cells c8 121)
 simpa using h
theorem phS_end {W0 w V : World} {L y4 y5 y6 y7 y8 n : Nat} {lv : Value} {toks : List (Tk × Nat)} {e : Int} {c6 c7 c8 : Array Value} (h : PhS w V L y4 y5 y6 y7 y8 c6 c7 c8) (hl : LineI W0 L lv toks e V n) (v0 v1 v2 v3 v4 u0 u1 : Value) :
  ∀ V' : World, (V' = (((((((V.setCell ⟨y4, 0, none⟩ v0).setCell ⟨y4, 1, none⟩ v1).setCell ⟨y4, 2, none⟩ v2).setCell ⟨y4, 3, none⟩ v3).setCell ⟨y4, 4, none⟩ v4).setCell ⟨y5, 0, none⟩ u0).setCell ⟨y5, 1, none⟩ u1) ∨ V' = (((((((V.setCell ⟨y4, 0, none⟩ v0).setCell ⟨y4, 1, none⟩ v1).setCell ⟨y4, 2, none⟩ v2).setCell ⟨y4, 3, none⟩ v3).setCell ⟨y4, 4, none⟩ v4).setCell ⟨y5, 0, none⟩ u0).setCell ⟨y5, 1, none⟩ u1).drew) →
   V'.heap[y4]? = some (.cells #[v0, v1, v2, v3, v4] 121 (0, 0)) ∧ V'.heap[y5]? = some (.cells #[u0, u1] 28 (0, 0)) ∧ KB (fun g => g = L) w V' ∧ LineI W0 L lv toks e V' n := by
 have h4 := h.l4; have h5 := h.l5; have hw := h.hw
 have hne : y5 ≠ y4 := by omega
 have e1 : ((((((#[.int .i64 0, .int .i64 0, .int .u8 0, .string ⟨#[]⟩, .slice none 0 0] : Array Value).setIfInBounds 0 v0).setIfInBounds 1 v1).setIfInBounds 2 v2).setIfInBounds 3 v3).setIfInBounds 4 v4) = #[v0, v1, v2, v3, v4] := by simp
 have e2 : (((#[.int .i64 0, .int .i64 0] : Array Value).setIfInBounds 0 u0).setIfInBounds 1 u1) = #[u0, u1] := by simp
 have p0 := set_block (k := 0) (v := v0) h.b4
 have p1 := set_block (k := 1) (v := v1) p0
 have p2 := set_block (k := 2) (v := v2) p1
 have p3 := set_block (k := 3) (v := v3) p2
 have p4 := set_block (k := 4) (v := v4) p3
 have p5 := block_other p4 (p := ⟨y5, 0, none⟩) hne u0
 have z1 := block_other p5 (p := ⟨y5, 1, none⟩) hne u1
 clear p0 p1 p2 p3 p4 p5
 have q0 := block_other h.b5 (p := ⟨y4, 0, none⟩) (Ne.symm hne) v0
 have q1 := block_other q0 (p := ⟨y4, 1, none⟩) (Ne.symm hne) v1
 have q2 := block_other q1 (p := ⟨y4, 2, none⟩) (Ne.symm hne) v2
 have q3 := block_other q2 (p := ⟨y4, 3, none⟩) (Ne.symm hne) v3
 have q4 := block_other q3 (p := ⟨y4, 4, none⟩) (Ne.symm hne) v4
 have q5 := set_block (k := 0) (v := u0) q4
 have z2 := set_block (k := 1) (v := u1) q5
 clear q0 q1 q2 q3 q4 q5
 rw [e1] at z1
 rw [e2] at z2
 have zk : KB (fun g => g = L) w (((((((V.setCell ⟨y4, 0, none⟩ v0).setCell ⟨y4, 1, none⟩ v1).setCell ⟨y4, 2, none⟩ v2).setCell ⟨y4, 3, none⟩ v3).setCell ⟨y4, 4, none⟩ v4).setCell ⟨y5, 0, none⟩ u0).setCell ⟨y5, 1, none⟩ u1) := by
  refine ((((((h.kb.setCell ?_ _).setCell ?_ _).setCell ?_ _).setCell ?_ _).setCell ?_ _).setCell ?_ _).setCell ?_ _
  all_goals (intro hl; exact absurd hl (by dsimp only; omega))
 have r0 := hl.set (k := 0) h4 v0
 have r1 := r0.set (k := 1) h4 v1
 have r2 := r1.set (k := 2) h4 v2
 have r3 := r2.set (k := 3) h4 v3
 have r4 := r3.set (k := 4) h4 v4
 have r5 := r4.set (k := 0) (show L < y5 by omega) u0
 have zl := r5.set (k := 1) (show L < y5 by omega) u1
 clear r0 r1 r2 r3 r4 r5
 generalize (((((((V.setCell ⟨y4, 0, none⟩ v0).setCell ⟨y4, 1, none⟩ v1).setCell ⟨y4, 2, none⟩ v2).setCell ⟨y4, 3, none⟩ v3).setCell ⟨y4, 4, none⟩ v4).setCell ⟨y5, 0, none⟩ u0).setCell ⟨y5, 1, none⟩ u1) = X at z1 z2 zk zl
 rintro _ (rfl | rfl)
 ·exact ⟨z1, z2, zk, zl⟩
 ·exact ⟨z1, z2, zk.drew, zl.kb ((KB.refl (fun _ => False) _).drew) (fun _ h => h.elim)⟩
theorem results_phrase {tmps : Array Value} {w : World} (g g2 : Nat) {cs cs2 : Array Value}
  (hp : tmps.getD 4 undef = .pointer (some ⟨g, 0, none⟩)) (hp2 : tmps.getD 5 undef = .pointer (some ⟨g2, 0, none⟩)) (hg : w.heap[g]? = some (.cells cs 121 (0, 0))) (hs : (Tryz.prog.info? 121).map (·.size) = some cs.size) (hg2 : w.heap[g2]? = some (.cells cs2 28 (0, 0))) (hs2 : (Tryz.prog.info? 28).map (·.size) = some cs2.size) :
  (results Tryz.f65 tmps).run Tryz.prog w = .ok (.tuple #[.agg cs, .agg cs2]) w := by
 have hp' : tmps[4]?.getD undef = .pointer (some ⟨g, 0, none⟩) := by simpa using hp
 have hp2' : tmps[5]?.getD undef = .pointer (some ⟨g2, 0, none⟩) := by simpa using hp2
 have h : Tryz.f65.results = #[.cell 4 121, .cell 5 28] := by rfl
 simp [results, h, hp', hp2', asAddr, run_loadVar_row w g 121 121 cs (0, 0) _ hg Tryz.underlying121 rfl hs, run_loadVar_row w g2 28 28 cs2 (0, 0) _ hg2 Tryz.underlying28 rfl hs2]
set_option maxHeartbeats 16000000 in
theorem phrase_any {W0 w : World} {L n : Nat} {lv : Value} {toks : List (Tk × Nat)} {e : Int} (h : LineI W0 L lv toks e w n) (hn : n < toks.length) (left : Bool) :
  Calls Tryz.prog 65 #[.pointer (some ⟨L, 0, none⟩), .bool left] w fun r w' => KB (fun g => g = L) w w' ∧
   ∃ k a f n', n' ≤ toks.length ∧ n < n' ∧ LineI W0 L lv toks e w' n' ∧ ∃ fa fx, r = .returned (.tuple #[.agg #[.int .i64 k, .int .i64 a, .int .u8 f, .string ⟨#[]⟩, .slice none 0 0], .agg #[.int .i64 fa, .int .i64 fx]]) ∧
   match phraseP VV left (restT toks n) with
   | some (i, q) => i = ⟨k, f, [], []⟩ ∧ q = restT toks n' ∧ fa = 0 ∧ fx = 0
   | none => (fx == 0) = false := by
 have hL := h.lt
 have hsm := h.small
 have h2 := (h.alloc (.cells #[.int .i64 0, .int .i64 0, .int .u8 0, .string ⟨#[]⟩, .slice none 0 0] 121)).alloc (.cells #[.int .i64 0, .int .i64 0] 28)
 have hp1 := peek_any h2
 have H2 := Lib.hid h2; have HP1 := Lib.hid hp1
 clear h2 hp1 h
 rw [rest_cons hn] at HP1 ⊢
 obtain ⟨t, ht⟩ : ∃ t, toks[n].1 = t := ⟨_, rfl⟩
 rw [ht] at HP1 ⊢
 obtain ⟨tk, tw, tn⟩ := t
 have HP1 : Hid (Calls Tryz.prog 34 #[.pointer (some ⟨L, 0, none⟩)] _ fun r w' => (∃ a, r = .returned (.agg #[.int .i64 tk, .int .i64 a, .string (str tw), .int .i64 tn])) ∧ _) := HP1
 have hv := fun w => Verb_any tw left w
 have hw2 := fun w => two_any tw w
 have hph : phraseP VV left (⟨tk, tw, tn⟩ :: restT toks (n + 1)) = phraseQ VV left ⟨tk, tw, tn⟩ (headT (restT toks (n + 1))) (restT toks (n + 1)) (restT toks (n + 1)).tail := rfl
 rw [hph]
 clear hph
 have hVV : ∀ s, VV.two s = twoW s := fun _ => rfl
 have hVW : ∀ s, VV.one s = oneW s := fun _ => rfl
 obtain ⟨o, ho⟩ : ∃ o, headT (restT toks (n + 1)) = o := ⟨_, rfl⟩
 rw [ho]
 unfold phraseQ
 rw [hVV, hVW]
 clear hVV hVW
 generalize twoW tw = x2 at hv hw2 ⊢
 generalize oneW tw = x1 at hv ⊢
 obtain ⟨xv, hxv⟩ : ∃ xv, (if left = true then x2 else x1) = xv := ⟨_, rfl⟩
 obtain ⟨hw, hhw⟩ : ∃ hw : Int, (if left = true then (4 : Int) else 3) = hw := ⟨_, rfl⟩
 rw [hxv, hhw]
 rw [hxv] at hv
 obtain ⟨ok, ow, on⟩ := o
 have HV := Lib.hid hv; have HW := Lib.hid hw2; have HO := Lib.hid ho
 clear hv hw2 ho
 dsimp only
 go_enter Tryz.func65, Tryz.ntmps65
 go_wp2_with fail
 refine HP1.out.mono ?_
 rintro _ w1 ⟨⟨a6, rfl⟩, hb1⟩
 have H3 := Lib.hid ((H2.out.next hb1).alloc (.cells #[.int .i64 tk, .int .i64 a6, .string (str tw), .int .i64 tn] 39))
 have HB1 := Lib.hid hb1
 clear hb1 H2
 try clear HP1
 dsimp only
 go_wp2_with fail
 refine (fault_any H3.out 43).mono ?_
 rintro _ w2 ⟨⟨a7, rfl⟩, hb2⟩
 have hli := (((H3.out.next hb2).setN (n + 1) (by omega)).alloc (.cells #[.int .i64 a7, .int .i64 43] 28)).alloc (.cells #[.int .i64 3, .int .i64 a6, .int .u8 0, .string ⟨#[]⟩, .slice none 0 0] 121)
 have hnew := phS_new (v := .int .i64 ((n + 1 : Nat) : Int)) (c7 := #[.int .i64 a7, .int .i64 43]) (c8 := #[.int .i64 3, .int .i64 a6, .int .u8 0, .string ⟨#[]⟩, .slice none 0 0]) hL HB1.out hb2
 have hc1 := (H3.out.next hb2).cells.2.1
 have hf1 := frozen_of_row w2 L 1 _ _ (H3.out.next hb2).box
 have hx6 := new1 hb2
 have x61 := cell_of_row w2 w1.heap.size 1 _ _ _ hx6
 have q := hb2.size
 have hL1 : L < w1.heap.size := Nat.lt_of_lt_of_le hL (by have := HB1.out.size; simp at this; omega)
 have HL1 := Lib.hid hli; have HN := Lib.hid hnew
 clear hli hnew hb2 HB1 H3
 dsimp only
 have hl6 : w1.heap.size < w2.heap.size := by simp at q; omega
 have hL2 : L < w2.heap.size := by omega
 clear q hx6
 go_upto_region 5 with fail
 refine gen_worldA (fun W => PhS w W L w.heap.size (w.heap.size + 1) w1.heap.size w2.heap.size (w2.heap.size + 1) #[.int .i64 tk, .int .i64 a6, .string (str tw), .int .i64 tn] #[.int .i64 a7, .int .i64 43] #[.int .i64 3, .int .i64 a6, .int .u8 0, .string ⟨#[]⟩, .slice none 0 0] ∧ LineI W0 L lv toks e W (n + 1)) ⟨HN.out, HL1.out⟩ ?_
 clear HN HL1 x61 hc1 hf1
 generalize w.heap.size + 1 = y5
 generalize w2.heap.size + 1 = y8
 generalize w1.heap.size = y6
 generalize w2.heap.size = y7
 generalize w.heap.size = y4
 rintro W ⟨hps, hli⟩
 have f0 := frozen_of_row W y8 0 _ _ hps.b8
 have f2 := frozen_of_row W y8 2 _ _ hps.b8
 have c62 := cell_of_row W y6 2 _ _ _ hps.b6
 have c80 := cell_of_row W y8 0 _ _ _ hps.b8
 have c82 := cell_of_row W y8 2 _ _ _ hps.b8
 have hne := hps.l8; have hne7 := hps.l7
 have HP := Lib.hid hps; have HL := Lib.hid hli
 clear hps hli
 have HXV := Lib.hid hxv
 clear hxv
 cases left
 case false =>
  obtain rfl : hw = 3 := hhw.symm
  go_upto_region 8 with (go_at_call 68; refine (HV.out _).mono ?_; rintro e w' ⟨rfl, rfl⟩)
  refine gen_worldA (fun V => PhS w V L y4 y5 y6 y7 y8 #[.int .i64 tk, .int .i64 a6, .string (str tw), .int .i64 tn] #[.int .i64 a7, .int .i64 43] #[.int .i64 3, .int .i64 a6, .int .u8 xv, .string ⟨#[]⟩, .slice none 0 0] ∧ LineI W0 L lv toks e V (n + 1)) ⟨HP.out.set8 2 _, HL.out.set (by have := HP.out.l4; have := HP.out.l5; have := HP.out.l6; omega) _⟩ ?_
  clear f0 f2 c62 c80 c82 HP HL HV HXV hhw
  try clear W
  rintro V ⟨hps, hli⟩
  have hp9 := peek_any hli
  rw [HO.out] at hp9
  unfold tkV at hp9
  dsimp only at hp9
  have HP9 := Lib.hid hp9; have HP := Lib.hid hps; have HL := Lib.hid hli
  clear hps hli hp9
  go_wp2_with fail
  refine HP9.out.mono ?_
  rintro _ w3 ⟨⟨a9, rfl⟩, hb3⟩
  have hps := (HP.out.next hb3).next ((Below.refl _ _).alloc (Nat.le_refl _) (.cells #[.int .i64 ok, .int .i64 a9, .string (str ow), .int .i64 on] 39))
  have hli := (HL.out.next hb3).alloc (.cells #[.int .i64 ok, .int .i64 a9, .string (str ow), .int .i64 on] 39)
  have hb9 := World.alloc_heap_new w3 (.cells #[.int .i64 ok, .int .i64 a9, .string (str ow), .int .i64 on] 39)
  have hy9 : y8 < w3.heap.size := (Array.getElem?_eq_some_iff.1 (HP.out.next hb3).b8).1
  have H := Lib.hid (And.intro hps (And.intro hli hb9))
  clear hps hli hb9 hb3 HP HL HP9
  dsimp only
  go_upto_region 9 with fail
  refine gen_worldA (fun V => PhS w V L y4 y5 y6 y7 y8 _ _ _ ∧ LineI W0 L lv toks e V (n + 1) ∧ V.heap[w3.heap.size]? = _) H.out ?_
  clear H
  generalize w3.heap.size = y9 at hy9 ⊢
  rintro V ⟨hps, hli, hb9⟩
  have b0 := cell_of_row V y9 0 _ _ _ hb9
  have b2 := cell_of_row V y9 2 _ _ _ hb9
  have t2 := cell_of_row V y6 2 _ _ _ hps.b6
  have i0 := frozen_of_row V y8 0 _ _ hps.b8
  have i2 := frozen_of_row V y8 2 _ _ hps.b8
  have c80 := cell_of_row V y8 0 _ _ _ hps.b8
  have c82 := cell_of_row V y8 2 _ _ _ hps.b8
  have l1 := hli.cells.2.1
  have fl := frozen_of_row V L 1 _ _ hli.box
  have g4 := hps.l4; have g5 := hps.l5; have g6 := hps.l6; have g7 := hps.l7; have g8 := hps.l8
  have HP := Lib.hid hps; have HL := Lib.hid hli; have HB9 := Lib.hid hb9
  clear hps hli hb9
  by_cases h3 : ok = 3
  ·subst h3
   have hn1 : n + 1 < toks.length := Nat.lt_of_not_le fun hle => by
    have := HO.out
    rw [rest_nil (by omega)] at this
    exact absurd (congrArg Tk.kind this) (show ¬ (4 : Int) = 3 by decide)
   clear HO
   by_cases h47 : ow = [47]
   ·subst h47
    go_upto_region 12 with (go_at_call 101; refine (HW.out _).mono ?_; rintro e w' ⟨rfl, rfl⟩)
    refine gen_worldA (fun V => PhS w V L y4 y5 y6 y7 y8 _ _ _ ∧ LineI W0 L lv toks e V (n + 2) ∧ V.heap[y9]? = _) ⟨(HP.out.setL 1 _).set8 2 _, (HL.out.setN (n + 2) (by omega)).set (by omega) _, block_other (block_other HB9.out (by show ¬ L = y9; omega) _) (by show ¬ y8 = y9; omega) _⟩ ?_
    clear b0 b2 t2 i0 i2 c80 c82 l1 fl HP HL HB9
    rintro V2 ⟨hps, hli, hb9⟩
    have b2 := cell_of_row V2 y9 2 _ _ _ hb9
    have i0 := frozen_of_row V2 y8 0 _ _ hps.b8
    have c80 := cell_of_row V2 y8 0 _ _ _ hps.b8
    have c82 := cell_of_row V2 y8 2 _ _ _ hps.b8
    have HP := Lib.hid hps; have HL := Lib.hid hli
    clear hps hli hb9
    by_cases h17 : 17 < x2
    ·go_upto_region 13 with fail
     have c81 := cell_of_row V2 y8 1 _ _ _ HP.out.b8
     have c83 := cell_of_row V2 y8 3 _ _ _ HP.out.b8
     have c84 := cell_of_row V2 y8 4 _ _ _ HP.out.b8
     have c70 := cell_of_row V2 y7 0 _ _ _ HP.out.b7
     have c71 := cell_of_row V2 y7 1 _ _ _ HP.out.b7
     have c40 := cell_of_row V2 y4 0 _ _ _ HP.out.b4
     have c41 := cell_of_row V2 y4 1 _ _ _ HP.out.b4
     have c42 := cell_of_row V2 y4 2 _ _ _ HP.out.b4
     have c43 := cell_of_row V2 y4 3 _ _ _ HP.out.b4
     have c44 := cell_of_row V2 y4 4 _ _ _ HP.out.b4
     have c50 := cell_of_row V2 y5 0 _ _ _ HP.out.b5
     have c51 := cell_of_row V2 y5 1 _ _ _ HP.out.b5
     have f40 := frozen_of_row V2 y4 0 _ _ HP.out.b4
     have f41 := frozen_of_row V2 y4 1 _ _ HP.out.b4
     have f42 := frozen_of_row V2 y4 2 _ _ HP.out.b4
     have f43 := frozen_of_row V2 y4 3 _ _ HP.out.b4
     have f44 := frozen_of_row V2 y4 4 _ _ HP.out.b4
     have f50 := frozen_of_row V2 y5 0 _ _ HP.out.b5
     have f51 := frozen_of_row V2 y5 1 _ _ HP.out.b5
     go_region
     go_wp2_with fail
     obtain ⟨z4, z5, zk, zl⟩ := phS_end HP.out HL.out _ _ _ _ _ _ _ _ (Or.inr rfl)
     exact bodyPost_ret (results_phrase y4 y5 rfl rfl z4 (by kernel_rfl) z5 (by kernel_rfl)) rfl ⟨zk, _, _, _, (n + 2), by omega, by omega, zl, _, _, rfl, by decide⟩
    ·go_upto_region 20 with fail
     refine gen_worldA (fun V => PhS w V L y4 y5 y6 y7 y8 _ _ _ ∧ LineI W0 L lv toks e V (n + 2)) ⟨HP.out.set8 0 _, HL.out.set (by omega) _⟩ ?_
     clear b2 i0 c80 c82 HP HL V2
     rintro V2 ⟨hps, hli⟩
     have c80 := cell_of_row V2 y8 0 _ _ _ hps.b8
     have c82 := cell_of_row V2 y8 2 _ _ _ hps.b8
     have HP := Lib.hid hps; have HL := Lib.hid hli
     clear hps hli
     by_cases h0 : x2 = 0
     ·subst h0
      go_upto_region 21 with fail
      have c81 := cell_of_row V2 y8 1 _ _ _ HP.out.b8
      have c83 := cell_of_row V2 y8 3 _ _ _ HP.out.b8
      have c84 := cell_of_row V2 y8 4 _ _ _ HP.out.b8
      have c70 := cell_of_row V2 y7 0 _ _ _ HP.out.b7
      have c71 := cell_of_row V2 y7 1 _ _ _ HP.out.b7
      have c40 := cell_of_row V2 y4 0 _ _ _ HP.out.b4
      have c41 := cell_of_row V2 y4 1 _ _ _ HP.out.b4
      have c42 := cell_of_row V2 y4 2 _ _ _ HP.out.b4
      have c43 := cell_of_row V2 y4 3 _ _ _ HP.out.b4
      have c44 := cell_of_row V2 y4 4 _ _ _ HP.out.b4
      have c50 := cell_of_row V2 y5 0 _ _ _ HP.out.b5
      have c51 := cell_of_row V2 y5 1 _ _ _ HP.out.b5
      have f40 := frozen_of_row V2 y4 0 _ _ HP.out.b4
      have f41 := frozen_of_row V2 y4 1 _ _ HP.out.b4
      have f42 := frozen_of_row V2 y4 2 _ _ HP.out.b4
      have f43 := frozen_of_row V2 y4 3 _ _ HP.out.b4
      have f44 := frozen_of_row V2 y4 4 _ _ HP.out.b4
      have f50 := frozen_of_row V2 y5 0 _ _ HP.out.b5
      have f51 := frozen_of_row V2 y5 1 _ _ HP.out.b5
      go_region
      go_wp2_with fail
      obtain ⟨z4, z5, zk, zl⟩ := phS_end HP.out HL.out _ _ _ _ _ _ _ _ (Or.inr rfl)
      exact bodyPost_ret (results_phrase y4 y5 rfl rfl z4 (by kernel_rfl) z5 (by kernel_rfl)) rfl ⟨zk, _, _, _, (n + 2), by omega, by omega, zl, _, _, rfl, by decide⟩
     ·have q0 : (x2 == 0) = false := by rw [beq_eq_false_iff_ne]; exact h0
      go_upto_region 22 with fail
      have c81 := cell_of_row V2 y8 1 _ _ _ HP.out.b8
      have c83 := cell_of_row V2 y8 3 _ _ _ HP.out.b8
      have c84 := cell_of_row V2 y8 4 _ _ _ HP.out.b8
      have c70 := cell_of_row V2 y7 0 _ _ _ HP.out.b7
      have c71 := cell_of_row V2 y7 1 _ _ _ HP.out.b7
      have c40 := cell_of_row V2 y4 0 _ _ _ HP.out.b4
      have c41 := cell_of_row V2 y4 1 _ _ _ HP.out.b4
      have c42 := cell_of_row V2 y4 2 _ _ _ HP.out.b4
      have c43 := cell_of_row V2 y4 3 _ _ _ HP.out.b4
      have c44 := cell_of_row V2 y4 4 _ _ _ HP.out.b4
      have c50 := cell_of_row V2 y5 0 _ _ _ HP.out.b5
      have c51 := cell_of_row V2 y5 1 _ _ _ HP.out.b5
      have f40 := frozen_of_row V2 y4 0 _ _ HP.out.b4
      have f41 := frozen_of_row V2 y4 1 _ _ HP.out.b4
      have f42 := frozen_of_row V2 y4 2 _ _ HP.out.b4
      have f43 := frozen_of_row V2 y4 3 _ _ HP.out.b4
      have f44 := frozen_of_row V2 y4 4 _ _ HP.out.b4
      have f50 := frozen_of_row V2 y5 0 _ _ HP.out.b5
      have f51 := frozen_of_row V2 y5 1 _ _ HP.out.b5
      go_wp2_with fail
      obtain ⟨z4, z5, zk, zl⟩ := phS_end HP.out HL.out _ _ _ _ _ _ _ _ (Or.inl rfl)
      refine bodyPost_ret (results_phrase y4 y5 rfl rfl z4 (by kernel_rfl) z5 (by kernel_rfl)) rfl ⟨zk, _, _, _, (n + 2), by omega, by omega, zl, _, _, rfl, ?_⟩
      first | exact ⟨⟨rfl, rfl⟩, rest_tail, rfl, rfl⟩ | exact ⟨⟨rfl, rfl⟩, rfl, rfl, rfl⟩ | simp_all
   have k47 : (ow == [47]) = false := by rw [beq_eq_false_iff_ne]; exact h47
   by_cases h92 : ow = [92]
   ·subst h92
    go_upto_region 12 with (go_at_call 101; refine (HW.out _).mono ?_; rintro e w' ⟨rfl, rfl⟩)
    refine gen_worldA (fun V => PhS w V L y4 y5 y6 y7 y8 _ _ _ ∧ LineI W0 L lv toks e V (n + 2) ∧ V.heap[y9]? = _) ⟨(HP.out.setL 1 _).set8 2 _, (HL.out.setN (n + 2) (by omega)).set (by omega) _, block_other (block_other HB9.out (by show ¬ L = y9; omega) _) (by show ¬ y8 = y9; omega) _⟩ ?_
    clear b0 b2 t2 i0 i2 c80 c82 l1 fl HP HL HB9
    rintro V2 ⟨hps, hli, hb9⟩
    have b2 := cell_of_row V2 y9 2 _ _ _ hb9
    have i0 := frozen_of_row V2 y8 0 _ _ hps.b8
    have c80 := cell_of_row V2 y8 0 _ _ _ hps.b8
    have c82 := cell_of_row V2 y8 2 _ _ _ hps.b8
    have HP := Lib.hid hps; have HL := Lib.hid hli
    clear hps hli hb9
    by_cases h17 : 17 < x2
    ·go_upto_region 13 with fail
     have c81 := cell_of_row V2 y8 1 _ _ _ HP.out.b8
     have c83 := cell_of_row V2 y8 3 _ _ _ HP.out.b8
     have c84 := cell_of_row V2 y8 4 _ _ _ HP.out.b8
     have c70 := cell_of_row V2 y7 0 _ _ _ HP.out.b7
     have c71 := cell_of_row V2 y7 1 _ _ _ HP.out.b7
     have c40 := cell_of_row V2 y4 0 _ _ _ HP.out.b4
     have c41 := cell_of_row V2 y4 1 _ _ _ HP.out.b4
     have c42 := cell_of_row V2 y4 2 _ _ _ HP.out.b4
     have c43 := cell_of_row V2 y4 3 _ _ _ HP.out.b4
     have c44 := cell_of_row V2 y4 4 _ _ _ HP.out.b4
     have c50 := cell_of_row V2 y5 0 _ _ _ HP.out.b5
     have c51 := cell_of_row V2 y5 1 _ _ _ HP.out.b5
     have f40 := frozen_of_row V2 y4 0 _ _ HP.out.b4
     have f41 := frozen_of_row V2 y4 1 _ _ HP.out.b4
     have f42 := frozen_of_row V2 y4 2 _ _ HP.out.b4
     have f43 := frozen_of_row V2 y4 3 _ _ HP.out.b4
     have f44 := frozen_of_row V2 y4 4 _ _ HP.out.b4
     have f50 := frozen_of_row V2 y5 0 _ _ HP.out.b5
     have f51 := frozen_of_row V2 y5 1 _ _ HP.out.b5
     go_region
     go_wp2_with fail
     obtain ⟨z4, z5, zk, zl⟩ := phS_end HP.out HL.out _ _ _ _ _ _ _ _ (Or.inr rfl)
     exact bodyPost_ret (results_phrase y4 y5 rfl rfl z4 (by kernel_rfl) z5 (by kernel_rfl)) rfl ⟨zk, _, _, _, (n + 2), by omega, by omega, zl, _, _, rfl, by decide⟩
    ·go_upto_region 20 with fail
     refine gen_worldA (fun V => PhS w V L y4 y5 y6 y7 y8 _ _ _ ∧ LineI W0 L lv toks e V (n + 2)) ⟨HP.out.set8 0 _, HL.out.set (by omega) _⟩ ?_
     clear b2 i0 c80 c82 HP HL V2
     rintro V2 ⟨hps, hli⟩
     have c80 := cell_of_row V2 y8 0 _ _ _ hps.b8
     have c82 := cell_of_row V2 y8 2 _ _ _ hps.b8
     have HP := Lib.hid hps; have HL := Lib.hid hli
     clear hps hli
     by_cases h0 : x2 = 0
     ·subst h0
      go_upto_region 21 with fail
      have c81 := cell_of_row V2 y8 1 _ _ _ HP.out.b8
      have c83 := cell_of_row V2 y8 3 _ _ _ HP.out.b8
      have c84 := cell_of_row V2 y8 4 _ _ _ HP.out.b8
      have c70 := cell_of_row V2 y7 0 _ _ _ HP.out.b7
      have c71 := cell_of_row V2 y7 1 _ _ _ HP.out.b7
      have c40 := cell_of_row V2 y4 0 _ _ _ HP.out.b4
      have c41 := cell_of_row V2 y4 1 _ _ _ HP.out.b4
      have c42 := cell_of_row V2 y4 2 _ _ _ HP.out.b4
      have c43 := cell_of_row V2 y4 3 _ _ _ HP.out.b4
      have c44 := cell_of_row V2 y4 4 _ _ _ HP.out.b4
      have c50 := cell_of_row V2 y5 0 _ _ _ HP.out.b5
      have c51 := cell_of_row V2 y5 1 _ _ _ HP.out.b5
      have f40 := frozen_of_row V2 y4 0 _ _ HP.out.b4
      have f41 := frozen_of_row V2 y4 1 _ _ HP.out.b4
      have f42 := frozen_of_row V2 y4 2 _ _ HP.out.b4
      have f43 := frozen_of_row V2 y4 3 _ _ HP.out.b4
      have f44 := frozen_of_row V2 y4 4 _ _ HP.out.b4
      have f50 := frozen_of_row V2 y5 0 _ _ HP.out.b5
      have f51 := frozen_of_row V2 y5 1 _ _ HP.out.b5
      go_region
      go_wp2_with fail
      obtain ⟨z4, z5, zk, zl⟩ := phS_end HP.out HL.out _ _ _ _ _ _ _ _ (Or.inr rfl)
      exact bodyPost_ret (results_phrase y4 y5 rfl rfl z4 (by kernel_rfl) z5 (by kernel_rfl)) rfl ⟨zk, _, _, _, (n + 2), by omega, by omega, zl, _, _, rfl, by decide⟩
     ·have q0 : (x2 == 0) = false := by rw [beq_eq_false_iff_ne]; exact h0
      go_upto_region 22 with fail
      have c81 := cell_of_row V2 y8 1 _ _ _ HP.out.b8
      have c83 := cell_of_row V2 y8 3 _ _ _ HP.out.b8
      have c84 := cell_of_row V2 y8 4 _ _ _ HP.out.b8
      have c70 := cell_of_row V2 y7 0 _ _ _ HP.out.b7
      have c71 := cell_of_row V2 y7 1 _ _ _ HP.out.b7
      have c40 := cell_of_row V2 y4 0 _ _ _ HP.out.b4
      have c41 := cell_of_row V2 y4 1 _ _ _ HP.out.b4
      have c42 := cell_of_row V2 y4 2 _ _ _ HP.out.b4
      have c43 := cell_of_row V2 y4 3 _ _ _ HP.out.b4
      have c44 := cell_of_row V2 y4 4 _ _ _ HP.out.b4
      have c50 := cell_of_row V2 y5 0 _ _ _ HP.out.b5
      have c51 := cell_of_row V2 y5 1 _ _ _ HP.out.b5
      have f40 := frozen_of_row V2 y4 0 _ _ HP.out.b4
      have f41 := frozen_of_row V2 y4 1 _ _ HP.out.b4
      have f42 := frozen_of_row V2 y4 2 _ _ HP.out.b4
      have f43 := frozen_of_row V2 y4 3 _ _ HP.out.b4
      have f44 := frozen_of_row V2 y4 4 _ _ HP.out.b4
      have f50 := frozen_of_row V2 y5 0 _ _ HP.out.b5
      have f51 := frozen_of_row V2 y5 1 _ _ HP.out.b5
      go_wp2_with fail
      obtain ⟨z4, z5, zk, zl⟩ := phS_end HP.out HL.out _ _ _ _ _ _ _ _ (Or.inl rfl)
      refine bodyPost_ret (results_phrase y4 y5 rfl rfl z4 (by kernel_rfl) z5 (by kernel_rfl)) rfl ⟨zk, _, _, _, (n + 2), by omega, by omega, zl, _, _, rfl, ?_⟩
      first | exact ⟨⟨rfl, rfl⟩, rest_tail, rfl, rfl⟩ | exact ⟨⟨rfl, rfl⟩, rfl, rfl, rfl⟩ | simp_all
   have k92 : (ow == [92]) = false := by rw [beq_eq_false_iff_ne]; exact h92
   by_cases h46 : ow = [46]
   ·subst h46
    go_upto_region 12 with (go_at_call 101; refine (HW.out _).mono ?_; rintro e w' ⟨rfl, rfl⟩)
    refine gen_worldA (fun V => PhS w V L y4 y5 y6 y7 y8 _ _ _ ∧ LineI W0 L lv toks e V (n + 2) ∧ V.heap[y9]? = _) ⟨(HP.out.setL 1 _).set8 2 _, (HL.out.setN (n + 2) (by omega)).set (by omega) _, block_other (block_other HB9.out (by show ¬ L = y9; omega) _) (by show ¬ y8 = y9; omega) _⟩ ?_
    clear b0 b2 t2 i0 i2 c80 c82 l1 fl HP HL HB9
    rintro V2 ⟨hps, hli, hb9⟩
    have b2 := cell_of_row V2 y9 2 _ _ _ hb9
    have i0 := frozen_of_row V2 y8 0 _ _ hps.b8
    have c80 := cell_of_row V2 y8 0 _ _ _ hps.b8
    have c82 := cell_of_row V2 y8 2 _ _ _ hps.b8
    have HP := Lib.hid hps; have HL := Lib.hid hli
    clear hps hli hb9
    by_cases h17 : 17 < x2
    ·go_upto_region 13 with fail
     have c81 := cell_of_row V2 y8 1 _ _ _ HP.out.b8
     have c83 := cell_of_row V2 y8 3 _ _ _ HP.out.b8
     have c84 := cell_of_row V2 y8 4 _ _ _ HP.out.b8
     have c70 := cell_of_row V2 y7 0 _ _ _ HP.out.b7
     have c71 := cell_of_row V2 y7 1 _ _ _ HP.out.b7
     have c40 := cell_of_row V2 y4 0 _ _ _ HP.out.b4
     have c41 := cell_of_row V2 y4 1 _ _ _ HP.out.b4
     have c42 := cell_of_row V2 y4 2 _ _ _ HP.out.b4
     have c43 := cell_of_row V2 y4 3 _ _ _ HP.out.b4
     have c44 := cell_of_row V2 y4 4 _ _ _ HP.out.b4
     have c50 := cell_of_row V2 y5 0 _ _ _ HP.out.b5
     have c51 := cell_of_row V2 y5 1 _ _ _ HP.out.b5
     have f40 := frozen_of_row V2 y4 0 _ _ HP.out.b4
     have f41 := frozen_of_row V2 y4 1 _ _ HP.out.b4
     have f42 := frozen_of_row V2 y4 2 _ _ HP.out.b4
     have f43 := frozen_of_row V2 y4 3 _ _ HP.out.b4
     have f44 := frozen_of_row V2 y4 4 _ _ HP.out.b4
     have f50 := frozen_of_row V2 y5 0 _ _ HP.out.b5
     have f51 := frozen_of_row V2 y5 1 _ _ HP.out.b5
     go_region
     go_wp2_with fail
     obtain ⟨z4, z5, zk, zl⟩ := phS_end HP.out HL.out _ _ _ _ _ _ _ _ (Or.inr rfl)
     exact bodyPost_ret (results_phrase y4 y5 rfl rfl z4 (by kernel_rfl) z5 (by kernel_rfl)) rfl ⟨zk, _, _, _, (n + 2), by omega, by omega, zl, _, _, rfl, by decide⟩
    ·go_upto_region 13 with fail
     have c81 := cell_of_row V2 y8 1 _ _ _ HP.out.b8
     have c83 := cell_of_row V2 y8 3 _ _ _ HP.out.b8
     have c84 := cell_of_row V2 y8 4 _ _ _ HP.out.b8
     have c70 := cell_of_row V2 y7 0 _ _ _ HP.out.b7
     have c71 := cell_of_row V2 y7 1 _ _ _ HP.out.b7
     have c40 := cell_of_row V2 y4 0 _ _ _ HP.out.b4
     have c41 := cell_of_row V2 y4 1 _ _ _ HP.out.b4
     have c42 := cell_of_row V2 y4 2 _ _ _ HP.out.b4
     have c43 := cell_of_row V2 y4 3 _ _ _ HP.out.b4
     have c44 := cell_of_row V2 y4 4 _ _ _ HP.out.b4
     have c50 := cell_of_row V2 y5 0 _ _ _ HP.out.b5
     have c51 := cell_of_row V2 y5 1 _ _ _ HP.out.b5
     have f40 := frozen_of_row V2 y4 0 _ _ HP.out.b4
     have f41 := frozen_of_row V2 y4 1 _ _ HP.out.b4
     have f42 := frozen_of_row V2 y4 2 _ _ HP.out.b4
     have f43 := frozen_of_row V2 y4 3 _ _ HP.out.b4
     have f44 := frozen_of_row V2 y4 4 _ _ HP.out.b4
     have f50 := frozen_of_row V2 y5 0 _ _ HP.out.b5
     have f51 := frozen_of_row V2 y5 1 _ _ HP.out.b5
     go_region
     go_wp2_with fail
     obtain ⟨z4, z5, zk, zl⟩ := phS_end HP.out HL.out _ _ _ _ _ _ _ _ (Or.inr rfl)
     exact bodyPost_ret (results_phrase y4 y5 rfl rfl z4 (by kernel_rfl) z5 (by kernel_rfl)) rfl ⟨zk, _, _, _, (n + 2), by omega, by omega, zl, _, _, rfl, by decide⟩
   have k46 : (ow == [46]) = false := by rw [beq_eq_false_iff_ne]; exact h46
   by_cases h0 : xv = 0
   ·subst h0
    obtain ⟨V2, hV2⟩ : ∃ V2, V2 = V := ⟨_, rfl⟩
    subst hV2
    go_upto_region 21 with fail
    have c81 := cell_of_row V2 y8 1 _ _ _ HP.out.b8
    have c83 := cell_of_row V2 y8 3 _ _ _ HP.out.b8
    have c84 := cell_of_row V2 y8 4 _ _ _ HP.out.b8
    have c70 := cell_of_row V2 y7 0 _ _ _ HP.out.b7
    have c71 := cell_of_row V2 y7 1 _ _ _ HP.out.b7
    have c40 := cell_of_row V2 y4 0 _ _ _ HP.out.b4
    have c41 := cell_of_row V2 y4 1 _ _ _ HP.out.b4
    have c42 := cell_of_row V2 y4 2 _ _ _ HP.out.b4
    have c43 := cell_of_row V2 y4 3 _ _ _ HP.out.b4
    have c44 := cell_of_row V2 y4 4 _ _ _ HP.out.b4
    have c50 := cell_of_row V2 y5 0 _ _ _ HP.out.b5
    have c51 := cell_of_row V2 y5 1 _ _ _ HP.out.b5
    have f40 := frozen_of_row V2 y4 0 _ _ HP.out.b4
    have f41 := frozen_of_row V2 y4 1 _ _ HP.out.b4
    have f42 := frozen_of_row V2 y4 2 _ _ HP.out.b4
    have f43 := frozen_of_row V2 y4 3 _ _ HP.out.b4
    have f44 := frozen_of_row V2 y4 4 _ _ HP.out.b4
    have f50 := frozen_of_row V2 y5 0 _ _ HP.out.b5
    have f51 := frozen_of_row V2 y5 1 _ _ HP.out.b5
    go_region
    go_wp2_with fail
    obtain ⟨z4, z5, zk, zl⟩ := phS_end HP.out HL.out _ _ _ _ _ _ _ _ (Or.inr rfl)
    exact bodyPost_ret (results_phrase y4 y5 rfl rfl z4 (by kernel_rfl) z5 (by kernel_rfl)) rfl ⟨zk, _, _, _, (n + 1), by omega, by omega, zl, _, _, rfl, by decide⟩
   ·have q0 : (xv == 0) = false := by rw [beq_eq_false_iff_ne]; exact h0
    obtain ⟨V2, hV2⟩ : ∃ V2, V2 = V := ⟨_, rfl⟩
    subst hV2
    go_upto_region 22 with fail
    have c81 := cell_of_row V2 y8 1 _ _ _ HP.out.b8
    have c83 := cell_of_row V2 y8 3 _ _ _ HP.out.b8
    have c84 := cell_of_row V2 y8 4 _ _ _ HP.out.b8
    have c70 := cell_of_row V2 y7 0 _ _ _ HP.out.b7
    have c71 := cell_of_row V2 y7 1 _ _ _ HP.out.b7
    have c40 := cell_of_row V2 y4 0 _ _ _ HP.out.b4
    have c41 := cell_of_row V2 y4 1 _ _ _ HP.out.b4
    have c42 := cell_of_row V2 y4 2 _ _ _ HP.out.b4
    have c43 := cell_of_row V2 y4 3 _ _ _ HP.out.b4
    have c44 := cell_of_row V2 y4 4 _ _ _ HP.out.b4
    have c50 := cell_of_row V2 y5 0 _ _ _ HP.out.b5
    have c51 := cell_of_row V2 y5 1 _ _ _ HP.out.b5
    have f40 := frozen_of_row V2 y4 0 _ _ HP.out.b4
    have f41 := frozen_of_row V2 y4 1 _ _ HP.out.b4
    have f42 := frozen_of_row V2 y4 2 _ _ HP.out.b4
    have f43 := frozen_of_row V2 y4 3 _ _ HP.out.b4
    have f44 := frozen_of_row V2 y4 4 _ _ HP.out.b4
    have f50 := frozen_of_row V2 y5 0 _ _ HP.out.b5
    have f51 := frozen_of_row V2 y5 1 _ _ HP.out.b5
    go_wp2_with fail
    obtain ⟨z4, z5, zk, zl⟩ := phS_end HP.out HL.out _ _ _ _ _ _ _ _ (Or.inl rfl)
    refine bodyPost_ret (results_phrase y4 y5 rfl rfl z4 (by kernel_rfl) z5 (by kernel_rfl)) rfl ⟨zk, _, _, _, (n + 1), by omega, by omega, zl, _, _, rfl, ?_⟩
    first | exact ⟨⟨rfl, rfl⟩, rest_tail, rfl, rfl⟩ | exact ⟨⟨rfl, rfl⟩, rfl, rfl, rfl⟩ | simp_all
  ·have k3 : (ok == 3) = false := by rw [beq_eq_false_iff_ne]; exact h3
   by_cases h0 : xv = 0
   ·subst h0
    obtain ⟨V2, hV2⟩ : ∃ V2, V2 = V := ⟨_, rfl⟩
    subst hV2
    go_upto_region 21 with fail
    have c81 := cell_of_row V2 y8 1 _ _ _ HP.out.b8
    have c83 := cell_of_row V2 y8 3 _ _ _ HP.out.b8
    have c84 := cell_of_row V2 y8 4 _ _ _ HP.out.b8
    have c70 := cell_of_row V2 y7 0 _ _ _ HP.out.b7
    have c71 := cell_of_row V2 y7 1 _ _ _ HP.out.b7
    have c40 := cell_of_row V2 y4 0 _ _ _ HP.out.b4
    have c41 := cell_of_row V2 y4 1 _ _ _ HP.out.b4
    have c42 := cell_of_row V2 y4 2 _ _ _ HP.out.b4
    have c43 := cell_of_row V2 y4 3 _ _ _ HP.out.b4
    have c44 := cell_of_row V2 y4 4 _ _ _ HP.out.b4
    have c50 := cell_of_row V2 y5 0 _ _ _ HP.out.b5
    have c51 := cell_of_row V2 y5 1 _ _ _ HP.out.b5
    have f40 := frozen_of_row V2 y4 0 _ _ HP.out.b4
    have f41 := frozen_of_row V2 y4 1 _ _ HP.out.b4
    have f42 := frozen_of_row V2 y4 2 _ _ HP.out.b4
    have f43 := frozen_of_row V2 y4 3 _ _ HP.out.b4
    have f44 := frozen_of_row V2 y4 4 _ _ HP.out.b4
    have f50 := frozen_of_row V2 y5 0 _ _ HP.out.b5
    have f51 := frozen_of_row V2 y5 1 _ _ HP.out.b5
    go_region
    go_wp2_with fail
    obtain ⟨z4, z5, zk, zl⟩ := phS_end HP.out HL.out _ _ _ _ _ _ _ _ (Or.inr rfl)
    exact bodyPost_ret (results_phrase y4 y5 rfl rfl z4 (by kernel_rfl) z5 (by kernel_rfl)) rfl ⟨zk, _, _, _, (n + 1), by omega, by omega, zl, _, _, rfl, by decide⟩
   ·have q0 : (xv == 0) = false := by rw [beq_eq_false_iff_ne]; exact h0
    obtain ⟨V2, hV2⟩ : ∃ V2, V2 = V := ⟨_, rfl⟩
    subst hV2
    go_upto_region 22 with fail
    have c81 := cell_of_row V2 y8 1 _ _ _ HP.out.b8
    have c83 := cell_of_row V2 y8 3 _ _ _ HP.out.b8
    have c84 := cell_of_row V2 y8 4 _ _ _ HP.out.b8
    have c70 := cell_of_row V2 y7 0 _ _ _ HP.out.b7
    have c71 := cell_of_row V2 y7 1 _ _ _ HP.out.b7
    have c40 := cell_of_row V2 y4 0 _ _ _ HP.out.b4
    have c41 := cell_of_row V2 y4 1 _ _ _ HP.out.b4
    have c42 := cell_of_row V2 y4 2 _ _ _ HP.out.b4
    have c43 := cell_of_row V2 y4 3 _ _ _ HP.out.b4
    have c44 := cell_of_row V2 y4 4 _ _ _ HP.out.b4
    have c50 := cell_of_row V2 y5 0 _ _ _ HP.out.b5
    have c51 := cell_of_row V2 y5 1 _ _ _ HP.out.b5
    have f40 := frozen_of_row V2 y4 0 _ _ HP.out.b4
    have f41 := frozen_of_row V2 y4 1 _ _ HP.out.b4
    have f42 := frozen_of_row V2 y4 2 _ _ HP.out.b4
    have f43 := frozen_of_row V2 y4 3 _ _ HP.out.b4
    have f44 := frozen_of_row V2 y4 4 _ _ HP.out.b4
    have f50 := frozen_of_row V2 y5 0 _ _ HP.out.b5
    have f51 := frozen_of_row V2 y5 1 _ _ HP.out.b5
    go_wp2_with fail
    obtain ⟨z4, z5, zk, zl⟩ := phS_end HP.out HL.out _ _ _ _ _ _ _ _ (Or.inl rfl)
    refine bodyPost_ret (results_phrase y4 y5 rfl rfl z4 (by kernel_rfl) z5 (by kernel_rfl)) rfl ⟨zk, _, _, _, (n + 1), by omega, by omega, zl, _, _, rfl, ?_⟩
    first | exact ⟨⟨rfl, rfl⟩, rest_tail, rfl, rfl⟩ | exact ⟨⟨rfl, rfl⟩, rfl, rfl, rfl⟩ | simp_all
 case true =>
  obtain rfl : hw = 4 := hhw.symm
  go_upto_region 8 with (go_at_call 68; refine (HV.out _).mono ?_; rintro e w' ⟨rfl, rfl⟩)
  refine gen_worldA (fun V => PhS w V L y4 y5 y6 y7 y8 #[.int .i64 tk, .int .i64 a6, .string (str tw), .int .i64 tn] #[.int .i64 a7, .int .i64 43] #[.int .i64 4, .int .i64 a6, .int .u8 xv, .string ⟨#[]⟩, .slice none 0 0] ∧ LineI W0 L lv toks e V (n + 1)) ⟨(HP.out.set8 0 _).set8 2 _, (HL.out.set (by have := HP.out.l4; have := HP.out.l5; have := HP.out.l6; omega) _).set (by have := HP.out.l4; have := HP.out.l5; have := HP.out.l6; omega) _⟩ ?_
  clear f0 f2 c62 c80 c82 HP HL HV HXV hhw
  try clear W
  rintro V ⟨hps, hli⟩
  have hp9 := peek_any hli
  rw [HO.out] at hp9
  unfold tkV at hp9
  dsimp only at hp9
  have HP9 := Lib.hid hp9; have HP := Lib.hid hps; have HL := Lib.hid hli
  clear hps hli hp9
  go_wp2_with fail
  refine HP9.out.mono ?_
  rintro _ w3 ⟨⟨a9, rfl⟩, hb3⟩
  have hps := (HP.out.next hb3).next ((Below.refl _ _).alloc (Nat.le_refl _) (.cells #[.int .i64 ok, .int .i64 a9, .string (str ow), .int .i64 on] 39))
  have hli := (HL.out.next hb3).alloc (.cells #[.int .i64 ok, .int .i64 a9, .string (str ow), .int .i64 on] 39)
  have hb9 := World.alloc_heap_new w3 (.cells #[.int .i64 ok, .int .i64 a9, .string (str ow), .int .i64 on] 39)
  have hy9 : y8 < w3.heap.size := (Array.getElem?_eq_some_iff.1 (HP.out.next hb3).b8).1
  have H := Lib.hid (And.intro hps (And.intro hli hb9))
  clear hps hli hb9 hb3 HP HL HP9
  dsimp only
  go_upto_region 9 with fail
  refine gen_worldA (fun V => PhS w V L y4 y5 y6 y7 y8 _ _ _ ∧ LineI W0 L lv toks e V (n + 1) ∧ V.heap[w3.heap.size]? = _) H.out ?_
  clear H
  generalize w3.heap.size = y9 at hy9 ⊢
  rintro V ⟨hps, hli, hb9⟩
  have b0 := cell_of_row V y9 0 _ _ _ hb9
  have b2 := cell_of_row V y9 2 _ _ _ hb9
  have t2 := cell_of_row V y6 2 _ _ _ hps.b6
  have i0 := frozen_of_row V y8 0 _ _ hps.b8
  have i2 := frozen_of_row V y8 2 _ _ hps.b8
  have c80 := cell_of_row V y8 0 _ _ _ hps.b8
  have c82 := cell_of_row V y8 2 _ _ _ hps.b8
  have l1 := hli.cells.2.1
  have fl := frozen_of_row V L 1 _ _ hli.box
  have g4 := hps.l4; have g5 := hps.l5; have g6 := hps.l6; have g7 := hps.l7; have g8 := hps.l8
  have HP := Lib.hid hps; have HL := Lib.hid hli; have HB9 := Lib.hid hb9
  clear hps hli hb9
  by_cases h3 : ok = 3
  ·subst h3
   have hn1 : n + 1 < toks.length := Nat.lt_of_not_le fun hle => by
    have := HO.out
    rw [rest_nil (by omega)] at this
    exact absurd (congrArg Tk.kind this) (show ¬ (4 : Int) = 3 by decide)
   clear HO
   by_cases h47 : ow = [47]
   ·subst h47
    go_upto_region 12 with (go_at_call 101; refine (HW.out _).mono ?_; rintro e w' ⟨rfl, rfl⟩)
    refine gen_worldA (fun V => PhS w V L y4 y5 y6 y7 y8 _ _ _ ∧ LineI W0 L lv toks e V (n + 2) ∧ V.heap[y9]? = _) ⟨(HP.out.setL 1 _).set8 2 _, (HL.out.setN (n + 2) (by omega)).set (by omega) _, block_other (block_other HB9.out (by show ¬ L = y9; omega) _) (by show ¬ y8 = y9; omega) _⟩ ?_
    clear b0 b2 t2 i0 i2 c80 c82 l1 fl HP HL HB9
    rintro V2 ⟨hps, hli, hb9⟩
    have b2 := cell_of_row V2 y9 2 _ _ _ hb9
    have i0 := frozen_of_row V2 y8 0 _ _ hps.b8
    have c80 := cell_of_row V2 y8 0 _ _ _ hps.b8
    have c82 := cell_of_row V2 y8 2 _ _ _ hps.b8
    have HP := Lib.hid hps; have HL := Lib.hid hli
    clear hps hli hb9
    by_cases h17 : 17 < x2
    ·go_upto_region 13 with fail
     have c81 := cell_of_row V2 y8 1 _ _ _ HP.out.b8
     have c83 := cell_of_row V2 y8 3 _ _ _ HP.out.b8
     have c84 := cell_of_row V2 y8 4 _ _ _ HP.out.b8
     have c70 := cell_of_row V2 y7 0 _ _ _ HP.out.b7
     have c71 := cell_of_row V2 y7 1 _ _ _ HP.out.b7
     have c40 := cell_of_row V2 y4 0 _ _ _ HP.out.b4
     have c41 := cell_of_row V2 y4 1 _ _ _ HP.out.b4
     have c42 := cell_of_row V2 y4 2 _ _ _ HP.out.b4
     have c43 := cell_of_row V2 y4 3 _ _ _ HP.out.b4
     have c44 := cell_of_row V2 y4 4 _ _ _ HP.out.b4
     have c50 := cell_of_row V2 y5 0 _ _ _ HP.out.b5
     have c51 := cell_of_row V2 y5 1 _ _ _ HP.out.b5
     have f40 := frozen_of_row V2 y4 0 _ _ HP.out.b4
     have f41 := frozen_of_row V2 y4 1 _ _ HP.out.b4
     have f42 := frozen_of_row V2 y4 2 _ _ HP.out.b4
     have f43 := frozen_of_row V2 y4 3 _ _ HP.out.b4
     have f44 := frozen_of_row V2 y4 4 _ _ HP.out.b4
     have f50 := frozen_of_row V2 y5 0 _ _ HP.out.b5
     have f51 := frozen_of_row V2 y5 1 _ _ HP.out.b5
     go_region
     go_wp2_with fail
     obtain ⟨z4, z5, zk, zl⟩ := phS_end HP.out HL.out _ _ _ _ _ _ _ _ (Or.inr rfl)
     exact bodyPost_ret (results_phrase y4 y5 rfl rfl z4 (by kernel_rfl) z5 (by kernel_rfl)) rfl ⟨zk, _, _, _, (n + 2), by omega, by omega, zl, _, _, rfl, by decide⟩
    ·go_upto_region 13 with fail
     have c81 := cell_of_row V2 y8 1 _ _ _ HP.out.b8
     have c83 := cell_of_row V2 y8 3 _ _ _ HP.out.b8
     have c84 := cell_of_row V2 y8 4 _ _ _ HP.out.b8
     have c70 := cell_of_row V2 y7 0 _ _ _ HP.out.b7
     have c71 := cell_of_row V2 y7 1 _ _ _ HP.out.b7
     have c40 := cell_of_row V2 y4 0 _ _ _ HP.out.b4
     have c41 := cell_of_row V2 y4 1 _ _ _ HP.out.b4
     have c42 := cell_of_row V2 y4 2 _ _ _ HP.out.b4
     have c43 := cell_of_row V2 y4 3 _ _ _ HP.out.b4
     have c44 := cell_of_row V2 y4 4 _ _ _ HP.out.b4
     have c50 := cell_of_row V2 y5 0 _ _ _ HP.out.b5
     have c51 := cell_of_row V2 y5 1 _ _ _ HP.out.b5
     have f40 := frozen_of_row V2 y4 0 _ _ HP.out.b4
     have f41 := frozen_of_row V2 y4 1 _ _ HP.out.b4
     have f42 := frozen_of_row V2 y4 2 _ _ HP.out.b4
     have f43 := frozen_of_row V2 y4 3 _ _ HP.out.b4
     have f44 := frozen_of_row V2 y4 4 _ _ HP.out.b4
     have f50 := frozen_of_row V2 y5 0 _ _ HP.out.b5
     have f51 := frozen_of_row V2 y5 1 _ _ HP.out.b5
     go_region
     go_wp2_with fail
     obtain ⟨z4, z5, zk, zl⟩ := phS_end HP.out HL.out _ _ _ _ _ _ _ _ (Or.inr rfl)
     exact bodyPost_ret (results_phrase y4 y5 rfl rfl z4 (by kernel_rfl) z5 (by kernel_rfl)) rfl ⟨zk, _, _, _, (n + 2), by omega, by omega, zl, _, _, rfl, by decide⟩
   have k47 : (ow == [47]) = false := by rw [beq_eq_false_iff_ne]; exact h47
   by_cases h92 : ow = [92]
   ·subst h92
    go_upto_region 12 with (go_at_call 101; refine (HW.out _).mono ?_; rintro e w' ⟨rfl, rfl⟩)
    refine gen_worldA (fun V => PhS w V L y4 y5 y6 y7 y8 _ _ _ ∧ LineI W0 L lv toks e V (n + 2) ∧ V.heap[y9]? = _) ⟨(HP.out.setL 1 _).set8 2 _, (HL.out.setN (n + 2) (by omega)).set (by omega) _, block_other (block_other HB9.out (by show ¬ L = y9; omega) _) (by show ¬ y8 = y9; omega) _⟩ ?_
    clear b0 b2 t2 i0 i2 c80 c82 l1 fl HP HL HB9
    rintro V2 ⟨hps, hli, hb9⟩
    have b2 := cell_of_row V2 y9 2 _ _ _ hb9
    have i0 := frozen_of_row V2 y8 0 _ _ hps.b8
    have c80 := cell_of_row V2 y8 0 _ _ _ hps.b8
    have c82 := cell_of_row V2 y8 2 _ _ _ hps.b8
    have HP := Lib.hid hps; have HL := Lib.hid hli
    clear hps hli hb9
    by_cases h17 : 17 < x2
    ·go_upto_region 13 with fail
     have c81 := cell_of_row V2 y8 1 _ _ _ HP.out.b8
     have c83 := cell_of_row V2 y8 3 _ _ _ HP.out.b8
     have c84 := cell_of_row V2 y8 4 _ _ _ HP.out.b8
     have c70 := cell_of_row V2 y7 0 _ _ _ HP.out.b7
     have c71 := cell_of_row V2 y7 1 _ _ _ HP.out.b7
     have c40 := cell_of_row V2 y4 0 _ _ _ HP.out.b4
     have c41 := cell_of_row V2 y4 1 _ _ _ HP.out.b4
     have c42 := cell_of_row V2 y4 2 _ _ _ HP.out.b4
     have c43 := cell_of_row V2 y4 3 _ _ _ HP.out.b4
     have c44 := cell_of_row V2 y4 4 _ _ _ HP.out.b4
     have c50 := cell_of_row V2 y5 0 _ _ _ HP.out.b5
     have c51 := cell_of_row V2 y5 1 _ _ _ HP.out.b5
     have f40 := frozen_of_row V2 y4 0 _ _ HP.out.b4
     have f41 := frozen_of_row V2 y4 1 _ _ HP.out.b4
     have f42 := frozen_of_row V2 y4 2 _ _ HP.out.b4
     have f43 := frozen_of_row V2 y4 3 _ _ HP.out.b4
     have f44 := frozen_of_row V2 y4 4 _ _ HP.out.b4
     have f50 := frozen_of_row V2 y5 0 _ _ HP.out.b5
     have f51 := frozen_of_row V2 y5 1 _ _ HP.out.b5
     go_region
     go_wp2_with fail
     obtain ⟨z4, z5, zk, zl⟩ := phS_end HP.out HL.out _ _ _ _ _ _ _ _ (Or.inr rfl)
     exact bodyPost_ret (results_phrase y4 y5 rfl rfl z4 (by kernel_rfl) z5 (by kernel_rfl)) rfl ⟨zk, _, _, _, (n + 2), by omega, by omega, zl, _, _, rfl, by decide⟩
    ·go_upto_region 13 with fail
     have c81 := cell_of_row V2 y8 1 _ _ _ HP.out.b8
     have c83 := cell_of_row V2 y8 3 _ _ _ HP.out.b8
     have c84 := cell_of_row V2 y8 4 _ _ _ HP.out.b8
     have c70 := cell_of_row V2 y7 0 _ _ _ HP.out.b7
     have c71 := cell_of_row V2 y7 1 _ _ _ HP.out.b7
     have c40 := cell_of_row V2 y4 0 _ _ _ HP.out.b4
     have c41 := cell_of_row V2 y4 1 _ _ _ HP.out.b4
     have c42 := cell_of_row V2 y4 2 _ _ _ HP.out.b4
     have c43 := cell_of_row V2 y4 3 _ _ _ HP.out.b4
     have c44 := cell_of_row V2 y4 4 _ _ _ HP.out.b4
     have c50 := cell_of_row V2 y5 0 _ _ _ HP.out.b5
     have c51 := cell_of_row V2 y5 1 _ _ _ HP.out.b5
     have f40 := frozen_of_row V2 y4 0 _ _ HP.out.b4
     have f41 := frozen_of_row V2 y4 1 _ _ HP.out.b4
     have f42 := frozen_of_row V2 y4 2 _ _ HP.out.b4
     have f43 := frozen_of_row V2 y4 3 _ _ HP.out.b4
     have f44 := frozen_of_row V2 y4 4 _ _ HP.out.b4
     have f50 := frozen_of_row V2 y5 0 _ _ HP.out.b5
     have f51 := frozen_of_row V2 y5 1 _ _ HP.out.b5
     go_region
     go_wp2_with fail
     obtain ⟨z4, z5, zk, zl⟩ := phS_end HP.out HL.out _ _ _ _ _ _ _ _ (Or.inr rfl)
     exact bodyPost_ret (results_phrase y4 y5 rfl rfl z4 (by kernel_rfl) z5 (by kernel_rfl)) rfl ⟨zk, _, _, _, (n + 2), by omega, by omega, zl, _, _, rfl, by decide⟩
   have k92 : (ow == [92]) = false := by rw [beq_eq_false_iff_ne]; exact h92
   by_cases h46 : ow = [46]
   ·subst h46
    go_upto_region 12 with (go_at_call 101; refine (HW.out _).mono ?_; rintro e w' ⟨rfl, rfl⟩)
    refine gen_worldA (fun V => PhS w V L y4 y5 y6 y7 y8 _ _ _ ∧ LineI W0 L lv toks e V (n + 2) ∧ V.heap[y9]? = _) ⟨(HP.out.setL 1 _).set8 2 _, (HL.out.setN (n + 2) (by omega)).set (by omega) _, block_other (block_other HB9.out (by show ¬ L = y9; omega) _) (by show ¬ y8 = y9; omega) _⟩ ?_
    clear b0 b2 t2 i0 i2 c80 c82 l1 fl HP HL HB9
    rintro V2 ⟨hps, hli, hb9⟩
    have b2 := cell_of_row V2 y9 2 _ _ _ hb9
    have i0 := frozen_of_row V2 y8 0 _ _ hps.b8
    have c80 := cell_of_row V2 y8 0 _ _ _ hps.b8
    have c82 := cell_of_row V2 y8 2 _ _ _ hps.b8
    have HP := Lib.hid hps; have HL := Lib.hid hli
    clear hps hli hb9
    by_cases h17 : 17 < x2
    ·go_upto_region 13 with fail
     have c81 := cell_of_row V2 y8 1 _ _ _ HP.out.b8
     have c83 := cell_of_row V2 y8 3 _ _ _ HP.out.b8
     have c84 := cell_of_row V2 y8 4 _ _ _ HP.out.b8
     have c70 := cell_of_row V2 y7 0 _ _ _ HP.out.b7
     have c71 := cell_of_row V2 y7 1 _ _ _ HP.out.b7
     have c40 := cell_of_row V2 y4 0 _ _ _ HP.out.b4
     have c41 := cell_of_row V2 y4 1 _ _ _ HP.out.b4
     have c42 := cell_of_row V2 y4 2 _ _ _ HP.out.b4
     have c43 := cell_of_row V2 y4 3 _ _ _ HP.out.b4
     have c44 := cell_of_row V2 y4 4 _ _ _ HP.out.b4
     have c50 := cell_of_row V2 y5 0 _ _ _ HP.out.b5
     have c51 := cell_of_row V2 y5 1 _ _ _ HP.out.b5
     have f40 := frozen_of_row V2 y4 0 _ _ HP.out.b4
     have f41 := frozen_of_row V2 y4 1 _ _ HP.out.b4
     have f42 := frozen_of_row V2 y4 2 _ _ HP.out.b4
     have f43 := frozen_of_row V2 y4 3 _ _ HP.out.b4
     have f44 := frozen_of_row V2 y4 4 _ _ HP.out.b4
     have f50 := frozen_of_row V2 y5 0 _ _ HP.out.b5
     have f51 := frozen_of_row V2 y5 1 _ _ HP.out.b5
     go_region
     go_wp2_with fail
     obtain ⟨z4, z5, zk, zl⟩ := phS_end HP.out HL.out _ _ _ _ _ _ _ _ (Or.inr rfl)
     exact bodyPost_ret (results_phrase y4 y5 rfl rfl z4 (by kernel_rfl) z5 (by kernel_rfl)) rfl ⟨zk, _, _, _, (n + 2), by omega, by omega, zl, _, _, rfl, by decide⟩
    ·go_upto_region 20 with fail
     refine gen_worldA (fun V => PhS w V L y4 y5 y6 y7 y8 _ _ _ ∧ LineI W0 L lv toks e V (n + 2)) ⟨HP.out.set8 0 _, HL.out.set (by omega) _⟩ ?_
     clear b2 i0 c80 c82 HP HL V2
     rintro V2 ⟨hps, hli⟩
     have c80 := cell_of_row V2 y8 0 _ _ _ hps.b8
     have c82 := cell_of_row V2 y8 2 _ _ _ hps.b8
     have HP := Lib.hid hps; have HL := Lib.hid hli
     clear hps hli
     by_cases h0 : x2 = 0
     ·subst h0
      go_upto_region 21 with fail
      have c81 := cell_of_row V2 y8 1 _ _ _ HP.out.b8
      have c83 := cell_of_row V2 y8 3 _ _ _ HP.out.b8
      have c84 := cell_of_row V2 y8 4 _ _ _ HP.out.b8
      have c70 := cell_of_row V2 y7 0 _ _ _ HP.out.b7
      have c71 := cell_of_row V2 y7 1 _ _ _ HP.out.b7
      have c40 := cell_of_row V2 y4 0 _ _ _ HP.out.b4
      have c41 := cell_of_row V2 y4 1 _ _ _ HP.out.b4
      have c42 := cell_of_row V2 y4 2 _ _ _ HP.out.b4
      have c43 := cell_of_row V2 y4 3 _ _ _ HP.out.b4
      have c44 := cell_of_row V2 y4 4 _ _ _ HP.out.b4
      have c50 := cell_of_row V2 y5 0 _ _ _ HP.out.b5
      have c51 := cell_of_row V2 y5 1 _ _ _ HP.out.b5
      have f40 := frozen_of_row V2 y4 0 _ _ HP.out.b4
      have f41 := frozen_of_row V2 y4 1 _ _ HP.out.b4
      have f42 := frozen_of_row V2 y4 2 _ _ HP.out.b4
      have f43 := frozen_of_row V2 y4 3 _ _ HP.out.b4
      have f44 := frozen_of_row V2 y4 4 _ _ HP.out.b4
      have f50 := frozen_of_row V2 y5 0 _ _ HP.out.b5
      have f51 := frozen_of_row V2 y5 1 _ _ HP.out.b5
      go_region
      go_wp2_with fail
      obtain ⟨z4, z5, zk, zl⟩ := phS_end HP.out HL.out _ _ _ _ _ _ _ _ (Or.inr rfl)
      exact bodyPost_ret (results_phrase y4 y5 rfl rfl z4 (by kernel_rfl) z5 (by kernel_rfl)) rfl ⟨zk, _, _, _, (n + 2), by omega, by omega, zl, _, _, rfl, by decide⟩
     ·have q0 : (x2 == 0) = false := by rw [beq_eq_false_iff_ne]; exact h0
      go_upto_region 22 with fail
      have c81 := cell_of_row V2 y8 1 _ _ _ HP.out.b8
      have c83 := cell_of_row V2 y8 3 _ _ _ HP.out.b8
      have c84 := cell_of_row V2 y8 4 _ _ _ HP.out.b8
      have c70 := cell_of_row V2 y7 0 _ _ _ HP.out.b7
      have c71 := cell_of_row V2 y7 1 _ _ _ HP.out.b7
      have c40 := cell_of_row V2 y4 0 _ _ _ HP.out.b4
      have c41 := cell_of_row V2 y4 1 _ _ _ HP.out.b4
      have c42 := cell_of_row V2 y4 2 _ _ _ HP.out.b4
      have c43 := cell_of_row V2 y4 3 _ _ _ HP.out.b4
      have c44 := cell_of_row V2 y4 4 _ _ _ HP.out.b4
      have c50 := cell_of_row V2 y5 0 _ _ _ HP.out.b5
      have c51 := cell_of_row V2 y5 1 _ _ _ HP.out.b5
      have f40 := frozen_of_row V2 y4 0 _ _ HP.out.b4
      have f41 := frozen_of_row V2 y4 1 _ _ HP.out.b4
      have f42 := frozen_of_row V2 y4 2 _ _ HP.out.b4
      have f43 := frozen_of_row V2 y4 3 _ _ HP.out.b4
      have f44 := frozen_of_row V2 y4 4 _ _ HP.out.b4
      have f50 := frozen_of_row V2 y5 0 _ _ HP.out.b5
      have f51 := frozen_of_row V2 y5 1 _ _ HP.out.b5
      go_wp2_with fail
      obtain ⟨z4, z5, zk, zl⟩ := phS_end HP.out HL.out _ _ _ _ _ _ _ _ (Or.inl rfl)
      refine bodyPost_ret (results_phrase y4 y5 rfl rfl z4 (by kernel_rfl) z5 (by kernel_rfl)) rfl ⟨zk, _, _, _, (n + 2), by omega, by omega, zl, _, _, rfl, ?_⟩
      first | exact ⟨⟨rfl, rfl⟩, rest_tail, rfl, rfl⟩ | exact ⟨⟨rfl, rfl⟩, rfl, rfl, rfl⟩ | simp_all
   have k46 : (ow == [46]) = false := by rw [beq_eq_false_iff_ne]; exact h46
   by_cases h0 : xv = 0
   ·subst h0
    obtain ⟨V2, hV2⟩ : ∃ V2, V2 = V := ⟨_, rfl⟩
    subst hV2
    go_upto_region 21 with fail
    have c81 := cell_of_row V2 y8 1 _ _ _ HP.out.b8
    have c83 := cell_of_row V2 y8 3 _ _ _ HP.out.b8
    have c84 := cell_of_row V2 y8 4 _ _ _ HP.out.b8
    have c70 := cell_of_row V2 y7 0 _ _ _ HP.out.b7
    have c71 := cell_of_row V2 y7 1 _ _ _ HP.out.b7
    have c40 := cell_of_row V2 y4 0 _ _ _ HP.out.b4
    have c41 := cell_of_row V2 y4 1 _ _ _ HP.out.b4
    have c42 := cell_of_row V2 y4 2 _ _ _ HP.out.b4
    have c43 := cell_of_row V2 y4 3 _ _ _ HP.out.b4
    have c44 := cell_of_row V2 y4 4 _ _ _ HP.out.b4
    have c50 := cell_of_row V2 y5 0 _ _ _ HP.out.b5
    have c51 := cell_of_row V2 y5 1 _ _ _ HP.out.b5
    have f40 := frozen_of_row V2 y4 0 _ _ HP.out.b4
    have f41 := frozen_of_row V2 y4 1 _ _ HP.out.b4
    have f42 := frozen_of_row V2 y4 2 _ _ HP.out.b4
    have f43 := frozen_of_row V2 y4 3 _ _ HP.out.b4
    have f44 := frozen_of_row V2 y4 4 _ _ HP.out.b4
    have f50 := frozen_of_row V2 y5 0 _ _ HP.out.b5
    have f51 := frozen_of_row V2 y5 1 _ _ HP.out.b5
    go_region
    go_wp2_with fail
    obtain ⟨z4, z5, zk, zl⟩ := phS_end HP.out HL.out _ _ _ _ _ _ _ _ (Or.inr rfl)
    exact bodyPost_ret (results_phrase y4 y5 rfl rfl z4 (by kernel_rfl) z5 (by kernel_rfl)) rfl ⟨zk, _, _, _, (n + 1), by omega, by omega, zl, _, _, rfl, by decide⟩
   ·have q0 : (xv == 0) = false := by rw [beq_eq_false_iff_ne]; exact h0
    obtain ⟨V2, hV2⟩ : ∃ V2, V2 = V := ⟨_, rfl⟩
    subst hV2
    go_upto_region 22 with fail
    have c81 := cell_of_row V2 y8 1 _ _ _ HP.out.b8
    have c83 := cell_of_row V2 y8 3 _ _ _ HP.out.b8
    have c84 := cell_of_row V2 y8 4 _ _ _ HP.out.b8
    have c70 := cell_of_row V2 y7 0 _ _ _ HP.out.b7
    have c71 := cell_of_row V2 y7 1 _ _ _ HP.out.b7
    have c40 := cell_of_row V2 y4 0 _ _ _ HP.out.b4
    have c41 := cell_of_row V2 y4 1 _ _ _ HP.out.b4
    have c42 := cell_of_row V2 y4 2 _ _ _ HP.out.b4
    have c43 := cell_of_row V2 y4 3 _ _ _ HP.out.b4
    have c44 := cell_of_row V2 y4 4 _ _ _ HP.out.b4
    have c50 := cell_of_row V2 y5 0 _ _ _ HP.out.b5
    have c51 := cell_of_row V2 y5 1 _ _ _ HP.out.b5
    have f40 := frozen_of_row V2 y4 0 _ _ HP.out.b4
    have f41 := frozen_of_row V2 y4 1 _ _ HP.out.b4
    have f42 := frozen_of_row V2 y4 2 _ _ HP.out.b4
    have f43 := frozen_of_row V2 y4 3 _ _ HP.out.b4
    have f44 := frozen_of_row V2 y4 4 _ _ HP.out.b4
    have f50 := frozen_of_row V2 y5 0 _ _ HP.out.b5
    have f51 := frozen_of_row V2 y5 1 _ _ HP.out.b5
    go_wp2_with fail
    obtain ⟨z4, z5, zk, zl⟩ := phS_end HP.out HL.out _ _ _ _ _ _ _ _ (Or.inl rfl)
    refine bodyPost_ret (results_phrase y4 y5 rfl rfl z4 (by kernel_rfl) z5 (by kernel_rfl)) rfl ⟨zk, _, _, _, (n + 1), by omega, by omega, zl, _, _, rfl, ?_⟩
    first | exact ⟨⟨rfl, rfl⟩, rest_tail, rfl, rfl⟩ | exact ⟨⟨rfl, rfl⟩, rfl, rfl, rfl⟩ | simp_all
  ·have k3 : (ok == 3) = false := by rw [beq_eq_false_iff_ne]; exact h3
   by_cases h0 : xv = 0
   ·subst h0
    obtain ⟨V2, hV2⟩ : ∃ V2, V2 = V := ⟨_, rfl⟩
    subst hV2
    go_upto_region 21 with fail
    have c81 := cell_of_row V2 y8 1 _ _ _ HP.out.b8
    have c83 := cell_of_row V2 y8 3 _ _ _ HP.out.b8
    have c84 := cell_of_row V2 y8 4 _ _ _ HP.out.b8
    have c70 := cell_of_row V2 y7 0 _ _ _ HP.out.b7
    have c71 := cell_of_row V2 y7 1 _ _ _ HP.out.b7
    have c40 := cell_of_row V2 y4 0 _ _ _ HP.out.b4
    have c41 := cell_of_row V2 y4 1 _ _ _ HP.out.b4
    have c42 := cell_of_row V2 y4 2 _ _ _ HP.out.b4
    have c43 := cell_of_row V2 y4 3 _ _ _ HP.out.b4
    have c44 := cell_of_row V2 y4 4 _ _ _ HP.out.b4
    have c50 := cell_of_row V2 y5 0 _ _ _ HP.out.b5
    have c51 := cell_of_row V2 y5 1 _ _ _ HP.out.b5
    have f40 := frozen_of_row V2 y4 0 _ _ HP.out.b4
    have f41 := frozen_of_row V2 y4 1 _ _ HP.out.b4
    have f42 := frozen_of_row V2 y4 2 _ _ HP.out.b4
    have f43 := frozen_of_row V2 y4 3 _ _ HP.out.b4
    have f44 := frozen_of_row V2 y4 4 _ _ HP.out.b4
    have f50 := frozen_of_row V2 y5 0 _ _ HP.out.b5
    have f51 := frozen_of_row V2 y5 1 _ _ HP.out.b5
    go_region
    go_wp2_with fail
    obtain ⟨z4, z5, zk, zl⟩ := phS_end HP.out HL.out _ _ _ _ _ _ _ _ (Or.inr rfl)
    exact bodyPost_ret (results_phrase y4 y5 rfl rfl z4 (by kernel_rfl) z5 (by kernel_rfl)) rfl ⟨zk, _, _, _, (n + 1), by omega, by omega, zl, _, _, rfl, by decide⟩
   ·have q0 : (xv == 0) = false := by rw [beq_eq_false_iff_ne]; exact h0
    obtain ⟨V2, hV2⟩ : ∃ V2, V2 = V := ⟨_, rfl⟩
    subst hV2
    go_upto_region 22 with fail
    have c81 := cell_of_row V2 y8 1 _ _ _ HP.out.b8
    have c83 := cell_of_row V2 y8 3 _ _ _ HP.out.b8
    have c84 := cell_of_row V2 y8 4 _ _ _ HP.out.b8
    have c70 := cell_of_row V2 y7 0 _ _ _ HP.out.b7
    have c71 := cell_of_row V2 y7 1 _ _ _ HP.out.b7
    have c40 := cell_of_row V2 y4 0 _ _ _ HP.out.b4
    have c41 := cell_of_row V2 y4 1 _ _ _ HP.out.b4
    have c42 := cell_of_row V2 y4 2 _ _ _ HP.out.b4
    have c43 := cell_of_row V2 y4 3 _ _ _ HP.out.b4
    have c44 := cell_of_row V2 y4 4 _ _ _ HP.out.b4
    have c50 := cell_of_row V2 y5 0 _ _ _ HP.out.b5
    have c51 := cell_of_row V2 y5 1 _ _ _ HP.out.b5
    have f40 := frozen_of_row V2 y4 0 _ _ HP.out.b4
    have f41 := frozen_of_row V2 y4 1 _ _ HP.out.b4
    have f42 := frozen_of_row V2 y4 2 _ _ HP.out.b4
    have f43 := frozen_of_row V2 y4 3 _ _ HP.out.b4
    have f44 := frozen_of_row V2 y4 4 _ _ HP.out.b4
    have f50 := frozen_of_row V2 y5 0 _ _ HP.out.b5
    have f51 := frozen_of_row V2 y5 1 _ _ HP.out.b5
    go_wp2_with fail
    obtain ⟨z4, z5, zk, zl⟩ := phS_end HP.out HL.out _ _ _ _ _ _ _ _ (Or.inl rfl)
    refine bodyPost_ret (results_phrase y4 y5 rfl rfl z4 (by kernel_rfl) z5 (by kernel_rfl)) rfl ⟨zk, _, _, _, (n + 1), by omega, by omega, zl, _, _, rfl, ?_⟩
    first | exact ⟨⟨rfl, rfl⟩, rest_tail, rfl, rfl⟩ | exact ⟨⟨rfl, rfl⟩, rfl, rfl, rfl⟩ | simp_all
end Go.Proofs.YtokghjnkfabgiaaGreatDoor
