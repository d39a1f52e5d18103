import Derived.Test.YtkgbjmmiomggbaaE24
import Derived.Test.YtkgbjmmiomggbaaFlat
namespace Go.Proofs.Ytkgbjmmiomggbaa
open Go.RowKit
set_option linter.unusedVariables false
attribute [local go_sem ↓] Go.wp_at_zero Go.wp_at_succ

theorem ins_lit (W : World) (xs : List Ins) (hm : xs.length ≤ maxLen) (hw : ∀ x ∈ xs, x.wf) : insRep.Els (W.alloc (.cells (xs.flatMap Ins.enc).toArray 42)) (some ⟨W.heap.size, 0, none⟩) xs := flat_lit _ _ W 42 xs hm hw
theorem run_lit (xs : List Ins) (n : Nat) (hn : xs.length = n) (cs : Array Value) (hc : (xs.flatMap Ins.enc).toArray = cs) (hw : ∀ x ∈ xs, x.wf) (ms : List Int) (k : Nat) (hk : ms.length = k) (ds : Array Value) (hd : (ms.map (Value.int .i64)).toArray = ds) (hin : ∀ x ∈ ms, In64 x) (most : Int)
    (hg : goodB xs k most = true) {q : St × Nat} (hq : runI xs most.toNat (St0 ms) = q) (G : Nat) (W : World) (hG : W.heap.size = G) :
    Calls Try.prog 15 #[.slice (some ⟨G, 0, none⟩) n n, .slice (some ⟨G + 1, 0, none⟩) k k, .int .i64 most] ((W.alloc (.cells cs 42)).alloc (.cells ds 2)) (RunOut ((W.alloc (.cells cs 42)).alloc (.cells ds 2)) q) := by
  subst hn hc hk hd hq hG
  have hl := (good_facts hg).1
  exact run_good _ _ _ ms _ _ xs most hg ((ins_lit W xs (by unfold maxLen; omega) hw).below insRep ((Below.refl _ _).alloc (Nat.le_refl _) _) (Nat.le_refl _)) (IntsAt.lit2 .i64 W _ 2 ms) hin
theorem run_lit0 (xs : List Ins) (n : Nat) (hn : xs.length = n) (cs : Array Value) (hc : (xs.flatMap Ins.enc).toArray = cs) (hw : ∀ x ∈ xs, x.wf) (most : Int)
    (hg : goodB xs 0 most = true) {q : St × Nat} (hq : runI xs most.toNat (St0 []) = q) (G : Nat) (W : World) (hG : W.heap.size = G) :
    Calls Try.prog 15 #[.slice (some ⟨G, 0, none⟩) n n, .slice none 0 0, .int .i64 most] (W.alloc (.cells cs 42)) (RunOut (W.alloc (.cells cs 42)) q) := by
  subst hn hc hq hG
  have hl := (good_facts hg).1
  exact run_good _ _ _ [] _ _ xs most hg (ins_lit W xs (by unfold maxLen; omega) hw) (IntsAt.nil _ _ _) (by simp)
theorem step_lit (xs : List Ins) (n : Nat) (hn : xs.length = n) (cs : Array Value) (hc : (xs.flatMap Ins.enc).toArray = cs) (hl : xs.length ≤ maxLen) (hw : ∀ x ∈ xs, x.wf) (zs : Array Value) (hz : (cellsSt (.slice none 0 0) (St0 [])).toArray = zs)
    {q : St} (hq : rstepS xs (St0 []) = q) (G : Nat) (W : World) (hG : W.heap.size = G) :
    Calls Try.prog 12 #[.slice (some ⟨G, 0, none⟩) n n, .agg zs] (W.alloc (.cells cs 42)) (StepOut (W.alloc (.cells cs 42)) q) := by
  subst hn hc hq hG hz
  exact step_go _ none 0 _ _ xs (St0 []) (St0_wf (by simp)) rfl (by simp [St0]) ⟨none, 0, rfl, Nat.le_refl _, Nat.zero_le _, fun _ => rfl, Rep.Els.nil _ _ _⟩ (ins_lit W xs hl hw) (by unfold maxLen at hl; omega)

def codeA : List Ins := [⟨2, 1, 0, 0, 5⟩, ⟨6, 1, 0, 0, 1⟩, ⟨0, 0, 0, 0, 0⟩]
def codeB : List Ins := [⟨7, 0, 0, 0, 0⟩]
def codeC : List Ins := [⟨5, 1, 0, 0, 0⟩]
theorem codeA_wf : ∀ x ∈ codeA, x.wf := by
  intro x hx
  simp [codeA] at hx
  rcases hx with rfl | rfl | rfl <;> exact ⟨by decide, by decide, by decide, by decide, by decide⟩
theorem codeB_wf : ∀ x ∈ codeB, x.wf := by
  intro x hx
  simp [codeB] at hx
  subst hx
  exact ⟨by decide, by decide, by decide, by decide, by decide⟩
theorem codeC_wf : ∀ x ∈ codeC, x.wf := by
  intro x hx
  simp [codeC] at hx
  subst hx
  exact ⟨by decide, by decide, by decide, by decide, by decide⟩
theorem resA : ∃ s, runI codeA ((100 : Int)).toNat (St0 [0, 0]) = (s, 3) ∧ s.mem = [0, 5] ∧ s.fin = 1 := ⟨_, Prod.ext rfl (show (runI codeA 100 (St0 [0, 0])).2 = 3 from by kernel_rfl), (show (runI codeA 100 (St0 [0, 0])).1.mem = [0, 5] from by kernel_rfl), (show (runI codeA 100 (St0 [0, 0])).1.fin = 1 from by kernel_rfl)⟩
theorem resB : ∃ s, runI codeB ((10 : Int)).toNat (St0 []) = (s, 10) ∧ s.mem = [] ∧ s.fin = 6 := ⟨_, by rfl, by rfl, by rfl⟩
theorem resC : ∃ s, rstepS codeC (St0 []) = s ∧ s.mem = [] ∧ s.fin = 3 := ⟨_, rfl, by kernel_rfl, by kernel_rfl⟩
theorem goodA : goodB codeA 2 100 = true := by rfl
theorem goodB' : goodB codeB 0 10 = true := by rfl

theorem stored_state {w1 w2 : World} {o : Obj} {v : Value} {s : St} {z : Nat} (hz : w1.heap.size = z) (hl : s.regs.length = 16) (hr : w2.heap[z]? = some (.cells (cellsSt v s).toArray 26 (0, 0))) (hg : (w1.alloc o).grownBy w2 (some z)) : StB w2 z 26 v [] s ∧ Below w1.heap.size w1 w2 := by
  subst hz
  exact
  ⟨⟨by rw [List.append_nil]; exact hr, hl⟩, ((Below.refl _ _).alloc (Nat.le_refl _) o).grown hg (by simp) (fun k e => by cases e; exact Nat.le_refl _)⟩
theorem runI_len (code : List Ins) : ∀ (n : Nat) {s : St}, s.regs.length = 16 → (runI code n s).1.regs.length = 16
  | 0, s, h => h
  | n + 1, s, h => by
    have h1 : (mstepS code s).1.regs.length = 16 := by
      unfold mstepS
      split
      · exact stepI_len _ h
      · exact h
    rw [runI]
    split
    · exact runI_len code n h1
    · exact h1

set_option maxRecDepth 100000 in
set_option maxHeartbeats 16000000 in
theorem eshown_any (w : World) : Calls Try.prog 10 #[] w fun e w' => e = .returned (.bool true) ∧ Below w.heap.size w w' := by
  obtain ⟨sA, hA, hA1, hA2⟩ := resA
  obtain ⟨sB, hB, hB1, hB2⟩ := resB
  obtain ⟨sC, hC, hC1, hC2⟩ := resC
  have lA : sA.regs.length = 16 := by have := runI_len codeA ((100 : Int)).toNat (s := St0 [0, 0]) rfl; rw [hA] at this; exact this
  have lB : sB.regs.length = 16 := by have := runI_len codeB ((10 : Int)).toNat (s := St0 []) rfl; rw [hB] at this; exact this
  have lC : sC.regs.length = 16 := by rw [← hC]; exact rstepS_len _ rfl
  have K1 := Lib.hid (run_lit codeA 3 rfl _ (by simp only [codeA, List.flatMap_cons, List.flatMap_nil, Ins.enc, List.cons_append, List.nil_append, List.append_nil]; rfl) codeA_wf [0, 0] 2 rfl _ (by simp only [List.map_cons, List.map_nil]; rfl) (by intro x hx; simp at hx; subst hx; exact ⟨by decide, by decide⟩) 100 goodA hA)
  have K2 := Lib.hid (run_lit0 codeB 1 rfl _ (by simp only [codeB, List.flatMap_cons, List.flatMap_nil, Ins.enc, List.append_nil]; rfl) codeB_wf 10 goodB' hB)
  have K3 := Lib.hid (step_lit codeC 1 rfl _ (by simp only [codeC, List.flatMap_cons, List.flatMap_nil, Ins.enc, List.append_nil]; rfl) (by decide) codeC_wf _ rfl hC)
  have LA := Lib.hid lA; have LB := Lib.hid lB; have LC := Lib.hid lC; have A1 := Lib.hid hA1; have A2 := Lib.hid hA2; have B1 := Lib.hid hB1; have B2 := Lib.hid hB2; have C1 := Lib.hid hC1; have C2 := Lib.hid hC2
  clear hA hB hC hA1 hA2 hB1 hB2 hC1 hC2 lA lB lC
  go_enter Try.func10, Try.ntmps10
  go_wp2_with fail
  refine (K1.out _ _ rfl).mono ?_
  rintro e w1 ⟨v1, rfl, hm1, hb1⟩
  dsimp only at hm1
  rw [A1.out] at hm1
  obtain ⟨g1, c1, rfl, hg0, hg1, x1, f1, -⟩ := MemR.at hm1 (k := 1) (by simp)
  have hb1' : Below w.heap.size w w1 := (((Below.refl _ _).alloc (Nat.le_refl _) _).alloc (by simp) _).trans (hb1.mono (by simp; omega))
  have X1 := Lib.hid x1; have HB1 := Lib.hid hb1'
  have HN1 := Lib.hid (fun (c : Array Value) => World.alloc_heap_new w1 (.cells c 26))
  obtain ⟨z1, hz1⟩ : ∃ z1, w1.heap.size = z1 := ⟨_, rfl⟩
  clear hm1 hb1 x1 f1 hb1'
  go_wp2_with ((with_reducible show wpList _ _ _ ({ dst := none, op := Op.store 26 (.tmp 1) (.tmp _), type := _, pos := _, after := _, guard := _ } :: _) _ _); (refine wpList_store_whole rfl 26 _ _ rfl z1 rfl _ _ rfl 26 (by rw [← hz1]; exact HN1.out _) (by rw [Try.sizeSt, List.size_toArray, cellsSt_len LA.out]) (by simp [cellsSt_len LA.out]) (by simpa using cellsSt_one rfl _) ?_); intro w2 hr2 hg2)
  obtain ⟨s2, b12⟩ := stored_state hz1 LA.out hr2 hg2
  have X2 : Hid (w2.cell? ⟨g1, 1, none⟩ = some (.int .i64 5)) := Lib.hid ((b12.cell (p := ⟨g1, 1, none⟩) hg1).trans X1.out)
  have HB2 := Lib.hid (bNext b12 HB1.out)
  have S2 := Lib.hid s2
  have hgl := Nat.lt_of_lt_of_le hg1 b12.size
  have hzl := s2.lt
  clear hr2 hg2 s2 b12 HN1 X1 HB1 hz1
  go_wp2_with fail
  refine (K2.out _ _ rfl).mono ?_
  rintro e w3 ⟨v3, rfl, hm3, hb3⟩
  dsimp only at hm3
  rw [B1.out] at hm3
  obtain ⟨a3, c3, rfl, -⟩ := MemR.form hm3
  have hb3' : Below w2.heap.size w2 w3 := ((Below.refl _ _).alloc (Nat.le_refl _) _).trans (hb3.mono (by simp))
  have X3 : Hid (w3.cell? ⟨g1, 1, none⟩ = some (.int .i64 5)) := Lib.hid ((hb3'.cell (p := ⟨g1, 1, none⟩) hgl).trans X2.out)
  have S3 := Lib.hid (S2.out.below hb3')
  have HB3 := Lib.hid (bNext hb3' HB2.out)
  have hgl3 := Nat.lt_of_lt_of_le hgl hb3'.size
  have HN3 := Lib.hid (fun (c : Array Value) => World.alloc_heap_new w3 (.cells c 26))
  obtain ⟨z3, hz3⟩ : ∃ z3, w3.heap.size = z3 := ⟨_, rfl⟩
  clear hm3 hb3 hb3' X2 S2 HB2 hgl hzl hg0 hg1
  go_wp2_with ((with_reducible show wpList _ _ _ ({ dst := none, op := Op.store 26 (.tmp 4) (.tmp _), type := _, pos := _, after := _, guard := _ } :: _) _ _); (refine wpList_store_whole rfl 26 _ _ rfl z3 rfl _ _ rfl 26 (by rw [← hz3]; exact HN3.out _) (by rw [Try.sizeSt, List.size_toArray, cellsSt_len LB.out]) (by simp [cellsSt_len LB.out]) (by simpa using cellsSt_one rfl _) ?_); intro w4 hr4 hg4)
  obtain ⟨s4, b34⟩ := stored_state hz3 LB.out hr4 hg4
  have X4 : Hid (w4.cell? ⟨g1, 1, none⟩ = some (.int .i64 5)) := Lib.hid ((b34.cell (p := ⟨g1, 1, none⟩) hgl3).trans X3.out)
  have S4 := Lib.hid (S3.out.below b34)
  have U4 := Lib.hid s4
  have HB4 := Lib.hid (bNext b34 HB3.out)
  have hgl4 := Nat.lt_of_lt_of_le hgl3 b34.size
  clear hr4 hg4 s4 b34 HN3 X3 S3 HB3 hz3 hgl3
  go_wp2_with fail
  refine (K3.out _ _ rfl).mono ?_
  rintro e w5 ⟨v5, rfl, hm5, hb5⟩
  rw [C1.out] at hm5
  obtain ⟨a5, c5, rfl, -⟩ := MemR.form hm5
  have hb5' : Below w4.heap.size w4 w5 := ((Below.refl _ _).alloc (Nat.le_refl _) _).trans (hb5.mono (by simp))
  have X5 : Hid (w5.cell? ⟨g1, 1, none⟩ = some (.int .i64 5)) := Lib.hid ((hb5'.cell (p := ⟨g1, 1, none⟩) hgl4).trans X4.out)
  have S5 := Lib.hid (S4.out.below hb5')
  have U5 := Lib.hid (U4.out.below hb5')
  have HB5 := Lib.hid (bNext hb5' HB4.out)
  have hgl5 := Nat.lt_of_lt_of_le hgl4 hb5'.size
  have HN5 := Lib.hid (fun (c : Array Value) => World.alloc_heap_new w5 (.cells c 26))
  obtain ⟨z5, hz5⟩ : ∃ z5, w5.heap.size = z5 := ⟨_, rfl⟩
  clear hm5 hb5 hb5' X4 S4 U4 HB4 hgl4
  go_upto_region 4 with ((with_reducible show wpList _ _ _ ({ dst := none, op := Op.store 26 (.tmp 7) (.tmp _), type := _, pos := _, after := _, guard := _ } :: _) _ _); (refine wpList_store_whole rfl 26 _ _ rfl z5 rfl _ _ rfl 26 (by rw [← hz5]; exact HN5.out _) (by rw [Try.sizeSt, List.size_toArray, cellsSt_len LC.out]) (by simp [cellsSt_len LC.out]) (by simpa using cellsSt_one rfl _) ?_); intro w6 hr6 hg6)
  obtain ⟨s6, b56⟩ := stored_state hz5 LC.out hr6 hg6
  have X6 : w6.cell? ⟨g1, 1, none⟩ = some (.int .i64 5) := (b56.cell (p := ⟨g1, 1, none⟩) hgl5).trans X5.out
  have S6 := S5.out.below b56
  have U6 := U5.out.below b56
  have HB6 := Lib.hid (bNext b56 HB5.out)
  have m1 := S6.memv
  have f1 := S6.fin
  have f4 := U6.fin
  have f7 := s6.fin
  rw [A2.out] at f1
  rw [B2.out] at f4
  rw [C2.out] at f7
  clear hr6 hg6 s6 b56 HN5 X5 S5 U5 HB5 hz5 hgl5 S6 U6
  go_wp2_with fail
  go_ret
  exact ⟨rfl, HB6.out⟩
end Go.Proofs.Ytkgbjmmiomggbaa
