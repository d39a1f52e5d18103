import Derived.Test.YtmlfeocdcjhhaaaPH15
import Derived.Test.YtmlfeocdcjhhaaaPH12
import Derived.Test.YtmlfeocdcjhhaaaPH2
namespace Go.Proofs.Ytmlfeocdcjhhaaa
set_option maxRecDepth 100000
open Go.RowKit
set_option linter.unusedVariables false
set_option linter.unusedSimpArgs false
attribute [local go_sem ↓] Go.wp_at_zero Go.wp_at_succ

def opE (o : Cop) : List Value := [.int .i64 o.how, .int .i64 o.k, .int .i64 o.n, .slice none 0 0, .int .u8 o.fn]
theorem opsE_cs {B : Bd} {w : World} : ∀ l : List Cop, (∀ o ∈ l, o.p = [] ∧ OkO o) → (copO B).Cs w (l.flatMap opE) l
  | [], _ => rfl
  | o :: l, h => ⟨opE o, l.flatMap opE, by simp, ⟨_, rfl, by rw [(h o List.mem_cons_self).1]; exact MonS.nil _ _, (h o List.mem_cons_self).2.h, (h o List.mem_cons_self).2.k, (h o List.mem_cons_self).2.n, (h o List.mem_cons_self).2.f⟩, opsE_cs l (fun x hx => h x (List.mem_cons_of_mem _ hx))⟩
theorem lits (W : World) (B : Bd) (hL : B.hi ≤ W.heap.size) (G n : Nat) (l : List Cop) (cs : Array Value) (hc : cs = (l.flatMap opE).toArray) (hn : n = l.length) (hl : n ≤ 1000) (hG : W.heap.size = G) (h : ∀ o ∈ l, o.p = [] ∧ OkO o) :
    CopS B (W.alloc (.cells cs 44)) (.slice (some ⟨G, 0, none⟩) n n) l := by
  subst hG hc hn
  have hsz : (l.flatMap opE).length = l.length * 5 := by
    clear hl h
    induction l with
    | nil => rfl
    | cons o l ih => rw [List.flatMap_cons, List.length_append, ih, List.length_cons]; show 5 + _ = _; omega
  have h1 := World.ownsRow_lit (e := 44) (size := 5) (base := W.heap.size) W (l.flatMap opE).toArray l.length (Nat.le_refl _) (by unfold maxLen; omega) (by simpa using hsz)
  exact CopS.own hL h1 (by simpa using opsE_cs l h) rfl
theorem ret_op {fn : Func} {p : Tmp} (h : fn.results = #[.cell p 44]) (tmps : Array Value) (w : World) (R : Nat) (v0 v1 v2 v3 v4 : Value)
    (hp : tmps.getD p undef = .pointer (some ⟨R, 0, none⟩)) (hg : w.heap[R]? = some (.cells #[v0, v1, v2, v3, v4] 44 (0, 0))) : (results fn tmps).run Try.prog w = .ok (.agg #[v0, v1, v2, v3, v4]) w := by
  have hp' : tmps[p]?.getD undef = .pointer (some ⟨R, 0, none⟩) := by simpa using hp
  have hl1 := run_loadVar_row (P := Try.prog) w R 44 44 #[v0, v1, v2, v3, v4] (0, 0) _ hg Try.underlying44 rfl (by kernel_rfl)
  simp [results, h, hp', asAddr, hl1]
theorem num13_any (W : World) (n : Int) : Calls Try.prog 21 #[.int .i64 n] W fun e w' => e = .returned (.agg #[.int .i64 1, .int .i64 0, .int .i64 n, .slice none 0 0, .int .u8 0]) ∧ Below W.heap.size W w' := by
  go_enter Try.func21, Try.ntmps21
  go_wp2_with fail
  refine bodyPost_ret (v := .agg #[.int .i64 1, .int .i64 0, .int .i64 n, .slice none 0 0, .int .u8 0]) (ret_op rfl _ _ W.heap.size _ _ _ _ _ rfl (World.alloc_heap_new _ _)) rfl ⟨rfl, (Below.refl _ _).alloc (Nat.le_refl _) _⟩
/-- the box of the operation 'at' -/
structure AtBox (w W : World) (z : Nat) : Prop where
  x : W.heap[z]? = some (.cells #[.int .i64 3, .int .i64 0, .int .i64 0, .slice none 0 0, .int .u8 0] 44 (0, 0))
  b : Below w.heap.size w W
theorem AtBox.next {w W W' : World} {z : Nat} (h : AtBox w W z) (hb : Below W.heap.size W W') : AtBox w W' z := ⟨block_below h.x hb, bNext hb h.b⟩
theorem AtBox.new (w : World) : AtBox w (w.alloc (.cells #[.int .i64 3, .int .i64 0, .int .i64 0, .slice none 0 0, .int .u8 0] 44)) w.heap.size := ⟨World.alloc_heap_new _ _, (Below.refl _ _).alloc (Nat.le_refl _) _⟩
theorem AtBox.cells {w W : World} {z : Nat} (h : AtBox w W z) : W.cell? ⟨z, 0, none⟩ = some (.int .i64 3) ∧ W.cell? ⟨z, 1, none⟩ = some (.int .i64 0) ∧ W.cell? ⟨z, 2, none⟩ = some (.int .i64 0) ∧ W.cell? ⟨z, 3, none⟩ = some (.slice none 0 0) ∧ W.cell? ⟨z, 4, none⟩ = some (.int .u8 0) :=
  ⟨cell_of_row W z 0 _ _ _ h.x, cell_of_row W z 1 _ _ _ h.x, cell_of_row W z 2 _ _ _ h.x, cell_of_row W z 3 _ _ _ h.x, cell_of_row W z 4 _ _ _ h.x⟩
def atC : Cop := ⟨3, 0, 0, [], 0⟩
def dyC (f : Int) : Cop := ⟨6, 0, 0, [], f⟩
def lstA : List Cop := [atC, numC 0, dyC 1]
def lstB : List Cop := [numC 2, numC 3, dyC 3, atC, dyC 1]
def lstC : List Cop := [numC 0, numC 5, ⟨4, 1, 0, [], 0⟩, dyC 3]
def lstP : List Cop := [atC]
def lstQ : List Cop := [numC 6, atC, dyC 1]
theorem okO_lit {o : Cop} (h : o.p = [] ∧ (0 ≤ o.how ∧ o.how ≤ 10) ∧ (0 ≤ o.k ∧ o.k ≤ 10) ∧ (0 ≤ o.n ∧ o.n ≤ 10) ∧ (0 ≤ o.fn ∧ o.fn ≤ 10)) : o.p = [] ∧ OkO o := ⟨h.1, ⟨by unfold I64; omega, by unfold I64; omega, by unfold I64; omega, by unfold U8; omega⟩⟩
theorem lstA_ok : ∀ o ∈ lstA, o.p = [] ∧ OkO o := fun o h => okO_lit ((by decide : ∀ o ∈ lstA, o.p = [] ∧ (0 ≤ o.how ∧ o.how ≤ 10) ∧ (0 ≤ o.k ∧ o.k ≤ 10) ∧ (0 ≤ o.n ∧ o.n ≤ 10) ∧ (0 ≤ o.fn ∧ o.fn ≤ 10)) o h)
theorem lstB_ok : ∀ o ∈ lstB, o.p = [] ∧ OkO o := fun o h => okO_lit ((by decide : ∀ o ∈ lstB, o.p = [] ∧ (0 ≤ o.how ∧ o.how ≤ 10) ∧ (0 ≤ o.k ∧ o.k ≤ 10) ∧ (0 ≤ o.n ∧ o.n ≤ 10) ∧ (0 ≤ o.fn ∧ o.fn ≤ 10)) o h)
theorem lstC_ok : ∀ o ∈ lstC, o.p = [] ∧ OkO o := fun o h => okO_lit ((by decide : ∀ o ∈ lstC, o.p = [] ∧ (0 ≤ o.how ∧ o.how ≤ 10) ∧ (0 ≤ o.k ∧ o.k ≤ 10) ∧ (0 ≤ o.n ∧ o.n ≤ 10) ∧ (0 ≤ o.fn ∧ o.fn ≤ 10)) o h)
theorem lstP_ok : ∀ o ∈ lstP, o.p = [] ∧ OkO o := fun o h => okO_lit ((by decide : ∀ o ∈ lstP, o.p = [] ∧ (0 ≤ o.how ∧ o.how ≤ 10) ∧ (0 ≤ o.k ∧ o.k ≤ 10) ∧ (0 ≤ o.n ∧ o.n ≤ 10) ∧ (0 ≤ o.fn ∧ o.fn ≤ 10)) o h)
theorem lstQ_ok : ∀ o ∈ lstQ, o.p = [] ∧ OkO o := fun o h => okO_lit ((by decide : ∀ o ∈ lstQ, o.p = [] ∧ (0 ≤ o.how ∧ o.how ≤ 10) ∧ (0 ≤ o.k ∧ o.k ≤ 10) ∧ (0 ≤ o.n ∧ o.n ≤ 10) ∧ (0 ≤ o.fn ∧ o.fn ≤ 10)) o h)
theorem opsA : opsC lstA = (lstP, 0) := by decide +kernel
theorem opsB : opsC lstB = (lstQ, 0) := by decide +kernel
theorem opsZ : opsC lstC = (lstC, 0) := by decide +kernel
theorem opsN : opsC [] = ([], 130) := by decide +kernel
theorem sameP : sameL lstP lstP = true := by decide +kernel
theorem sameQ : sameL lstQ lstQ = true := by decide +kernel
theorem sameC : sameL lstC lstC = true := by decide +kernel
theorem sl_els {w : World} {a : Option Addr} {n c : Nat} {l : List Cop} (h : copRep.Sl w (.slice a n c) l) : copRep.Els w a l ∧ n = l.length ∧ l.length ≤ 9223372036854775807 := by
  obtain ⟨a', c', e, h1, h2⟩ := Rep.Sl.form h
  simp only [Value.slice.injEq] at e
  obtain ⟨rfl, rfl, rfl⟩ := e
  exact ⟨h2, rfl, h1⟩
theorem rops11_at (w : World) (a b : Option Addr) (n m c d : Nat) (xs ys : List Cop) (h : copRep.Sl w (.slice a n c) xs) (h2 : copRep.Sl w (.slice b m d) ys) :
    Calls Try.prog 12 #[.slice a n c, .slice b m d] w fun e w' => e = .returned (.bool (sameL xs ys)) ∧ Below w.heap.size w w' := by
  obtain ⟨e1, rfl, l1⟩ := sl_els h
  obtain ⟨e2, rfl, l2⟩ := sl_els h2
  exact rops11_any w a b c d xs ys l1 l2 e1 e2
theorem ops13_at (w : World) (a : Option Addr) (n c : Nat) (l : List Cop) (h : copRep.Sl w (.slice a n c) l) (hl : n ≤ 2513169434843) : Calls Try.prog 10 #[.slice a n c] w (RetOps w (opsC l)) := by
  obtain ⟨_, rfl, _⟩ := sl_els h
  exact ops13_any w a c l h hl
-- GEN
set_option maxHeartbeats 8000000 in
theorem shown_any (w : World) : Calls Try.prog 9 #[] w fun e w' => e = .returned (.bool true) ∧ Below w.heap.size w w' := by
  have HO := Lib.hid (AtBox.new w)
  obtain ⟨z, hz⟩ : ∃ z, w.heap.size = z := ⟨_, rfl⟩
  go_enter Try.func9, Try.ntmps9
  go_upto_region 2 with fail
  refine gen_worldA (fun W => AtBox w W w.heap.size) HO.out ?_
  rw [hz] at HO ⊢
  clear HO
  intro W0 hO
  have HO := Lib.hid hO
  clear hO hz
  refine wp_region_Z (S := fun W' => W'.cell? ⟨z, 0, none⟩ = some (.int .i64 3) ∧ W'.cell? ⟨z, 1, none⟩ = some (.int .i64 0) ∧ W'.cell? ⟨z, 2, none⟩ = some (.int .i64 0) ∧ W'.cell? ⟨z, 3, none⟩ = some (.slice none 0 0) ∧ W'.cell? ⟨z, 4, none⟩ = some (.int .u8 0)) (z := 9) (by kernel_rfl) ?_
  have hdr : Below W0.heap.size W0 W0.drew := (Below.refl _ _).drew
  have HO := Lib.hid (HO.out.next hdr)
  clear hdr
  obtain ⟨W1, hW1⟩ : ∃ W, W0.drew = W := ⟨_, rfl⟩
  rw [hW1] at HO ⊢
  clear hW1
  have hSS : (fun W' : World => W'.cell? ⟨z, 0, none⟩ = some (.int .i64 3) ∧ W'.cell? ⟨z, 1, none⟩ = some (.int .i64 0) ∧ W'.cell? ⟨z, 2, none⟩ = some (.int .i64 0) ∧ W'.cell? ⟨z, 3, none⟩ = some (.slice none 0 0) ∧ W'.cell? ⟨z, 4, none⟩ = some (.int .u8 0)) W1 := HO.out.cells
  refine wpAnyZ_take (i := 0) (v := ?_) rfl (by kernel_rfl) (by kernel_rfl) (by kernel_rfl) (fun _ _ _ h => h) (by kernel_rfl) (Or.inl ⟨by rfl, ?_⟩) (by assumption) ?_
  rotate_left
  · intro w' hSw
    try dsimp only at hSw
    try obtain ⟨hSw, hSw2⟩ := hSw
    go_simp
    try with_reducible rfl
  show wpAnyZ _ _ _ _ _ _ _ _ (Act.put _ (some 14) _) _
  simp only [Act.put, List.setIfInBounds_toArray, List.set_cons_zero, List.set_cons_succ]
  refine wpAnyZ_take (i := 2) (v := ?_) rfl (by kernel_rfl) (by kernel_rfl) (by kernel_rfl) (fun _ _ _ h => h) (by kernel_rfl) (Or.inl ⟨by rfl, ?_⟩) (by assumption) ?_
  rotate_left
  · intro w' hSw
    try dsimp only at hSw
    try obtain ⟨hSw, hSw2⟩ := hSw
    go_simp
    try with_reducible rfl
  show wpAnyZ _ _ _ _ _ _ _ _ (Act.put _ (some 16) _) _
  simp only [Act.put, List.setIfInBounds_toArray, List.set_cons_zero, List.set_cons_succ]
  clear hSS
  refine wpAnyZ_one (i := 1) (by kernel_rfl) rfl rfl (fun K hK => ?_)
  go_simp
  refine (num13_any W1 0).mono ?_
  rintro e W2 ⟨rfl, hb⟩
  have HO := Lib.hid (HO.out.next hb)
  show K _ W2
  refine hK.out _ _ (.inr HO.out.cells) ?_
  clear hK hb
  refine wpAnyZ_one (i := 3) (by kernel_rfl) rfl rfl (fun K hK => ?_)
  go_simp
  obtain ⟨GHL, hG⟩ : ∃ G, W2.heap.size = G := ⟨_, rfl⟩
  have hb : Below W2.heap.size W2 (W2.alloc (.cells (lstA.flatMap opE).toArray 44)) := (Below.refl _ _).alloc (Nat.le_refl _) _
  have HL := Lib.hid (lits W2 (b0 0) (Nat.zero_le _) GHL 3 lstA _ rfl rfl (by decide) hG lstA_ok).cop
  have HO := Lib.hid (HO.out.next hb)
  rw [hG]
  obtain ⟨W3, hY⟩ : ∃ W, W2.alloc (.cells (lstA.flatMap opE).toArray 44) = W := ⟨_, rfl⟩
  rw [hY] at HO HL
  show K _ (W2.alloc (.cells (lstA.flatMap opE).toArray 44))
  rw [hY]
  refine hK.out _ _ (.inr HO.out.cells) ?_
  clear hK hb hY hG
  refine wpAnyZ_one (i := 4) (by kernel_rfl) rfl rfl (fun K hK => ?_)
  go_simp
  have hq := ops13_at W3 (some ⟨GHL, 0, none⟩) 3 _ lstA HL.out (by decide)
  rw [opsA] at hq
  refine hq.mono ?_
  rintro e W4 ⟨⟨v, rfl, hv⟩, hb⟩
  obtain ⟨aHA, cHA, rfl, -, -⟩ := hv.form
  have HA := Lib.hid hv
  have HO := Lib.hid (HO.out.next hb)
  have HL := Lib.hid (HL.out.below _ hb (Nat.le_refl _))
  show K _ W4
  refine hK.out _ _ (.inr HO.out.cells) ?_
  clear hK
  clear hq hv hb
  clear HL
  have hSS : (fun W' : World => W'.cell? ⟨z, 0, none⟩ = some (.int .i64 3) ∧ W'.cell? ⟨z, 1, none⟩ = some (.int .i64 0) ∧ W'.cell? ⟨z, 2, none⟩ = some (.int .i64 0) ∧ W'.cell? ⟨z, 3, none⟩ = some (.slice none 0 0) ∧ W'.cell? ⟨z, 4, none⟩ = some (.int .u8 0)) W4 := HO.out.cells
  refine wpAnyZ_take (i := 5) (v := ?_) rfl (by kernel_rfl) (by kernel_rfl) (by kernel_rfl) (fun _ _ _ h => h) (by kernel_rfl) (Or.inl ⟨by rfl, ?_⟩) (by assumption) ?_
  rotate_left
  · intro w' hSw
    try dsimp only at hSw
    try obtain ⟨hSw, hSw2⟩ := hSw
    go_simp
    try with_reducible rfl
  show wpAnyZ _ _ _ _ _ _ _ _ (Act.put _ (some 13) _) _
  simp only [Act.put, List.setIfInBounds_toArray, List.set_cons_zero, List.set_cons_succ]
  refine wpAnyZ_take (i := 6) (v := ?_) rfl (by kernel_rfl) (by kernel_rfl) (by kernel_rfl) (fun _ _ _ h => h) (by kernel_rfl) (Or.inl ⟨by rfl, ?_⟩) (by assumption) ?_
  rotate_left
  · intro w' hSw
    try dsimp only at hSw
    try obtain ⟨hSw, hSw2⟩ := hSw
    go_simp
    try with_reducible rfl
  show wpAnyZ _ _ _ _ _ _ _ _ (Act.put _ (some 19) _) _
  simp only [Act.put, List.setIfInBounds_toArray, List.set_cons_zero, List.set_cons_succ]
  refine wpAnyZ_take (i := 7) (v := ?_) rfl (by kernel_rfl) (by kernel_rfl) (by kernel_rfl) (fun _ _ _ h => h) (by kernel_rfl) (Or.inl ⟨by rfl, ?_⟩) (by assumption) ?_
  rotate_left
  · intro w' hSw
    try dsimp only at hSw
    try obtain ⟨hSw, hSw2⟩ := hSw
    go_simp
    try with_reducible rfl
  show wpAnyZ _ _ _ _ _ _ _ _ (Act.put _ (some 20) _) _
  simp only [Act.put, List.setIfInBounds_toArray, List.set_cons_zero, List.set_cons_succ]
  refine wpAnyZ_take (i := 8) (v := ?_) rfl (by kernel_rfl) (by kernel_rfl) (by kernel_rfl) (fun _ _ _ h => h) (by kernel_rfl) (Or.inl ⟨by rfl, ?_⟩) (by assumption) ?_
  rotate_left
  · intro w' hSw
    try dsimp only at hSw
    try obtain ⟨hSw, hSw2⟩ := hSw
    go_simp
    try with_reducible rfl
  show wpAnyZ _ _ _ _ _ _ _ _ (Act.put _ (some 2) _) _
  simp only [Act.put, List.setIfInBounds_toArray, List.set_cons_zero, List.set_cons_succ]
  clear hSS
  refine wpAnyZ_one (i := 9) (by kernel_rfl) rfl rfl (fun K hK => ?_)
  go_simp
  refine hK.out _ _ (.inl (by omega)) ?_
  clear hK
  refine wpAnyZ_done (by kernel_rfl) ?_ _
  go_upto_region 3 with fail
  refine wp_region_Z (S := fun W' => W'.cell? ⟨z, 0, none⟩ = some (.int .i64 3) ∧ W'.cell? ⟨z, 1, none⟩ = some (.int .i64 0) ∧ W'.cell? ⟨z, 2, none⟩ = some (.int .i64 0) ∧ W'.cell? ⟨z, 3, none⟩ = some (.slice none 0 0) ∧ W'.cell? ⟨z, 4, none⟩ = some (.int .u8 0)) (z := 11) (by kernel_rfl) ?_
  have hdr : Below W4.heap.size W4 W4.drew := (Below.refl _ _).drew
  have HO := Lib.hid (HO.out.next hdr)
  have HA := Lib.hid (HA.out.below _ hdr (Nat.le_refl _))
  clear hdr
  obtain ⟨W5, hW5⟩ : ∃ W, W4.drew = W := ⟨_, rfl⟩
  rw [hW5] at HO HA ⊢
  clear hW5
  have hSS : (fun W' : World => W'.cell? ⟨z, 0, none⟩ = some (.int .i64 3) ∧ W'.cell? ⟨z, 1, none⟩ = some (.int .i64 0) ∧ W'.cell? ⟨z, 2, none⟩ = some (.int .i64 0) ∧ W'.cell? ⟨z, 3, none⟩ = some (.slice none 0 0) ∧ W'.cell? ⟨z, 4, none⟩ = some (.int .u8 0)) W5 := HO.out.cells
  refine wpAnyZ_take (i := 2) (v := ?_) rfl (by kernel_rfl) (by kernel_rfl) (by kernel_rfl) (fun _ _ _ h => h) (by kernel_rfl) (Or.inl ⟨by rfl, ?_⟩) (by assumption) ?_
  rotate_left
  · intro w' hSw
    try dsimp only at hSw
    try obtain ⟨hSw, hSw2⟩ := hSw
    go_simp
    try with_reducible rfl
  show wpAnyZ _ _ _ _ _ _ _ _ (Act.put _ (some 24) _) _
  simp only [Act.put, List.setIfInBounds_toArray, List.set_cons_zero, List.set_cons_succ]
  refine wpAnyZ_take (i := 3) (v := ?_) rfl (by kernel_rfl) (by kernel_rfl) (by kernel_rfl) (fun _ _ _ h => h) (by kernel_rfl) (Or.inl ⟨by rfl, ?_⟩) (by assumption) ?_
  rotate_left
  · intro w' hSw
    try dsimp only at hSw
    try obtain ⟨hSw, hSw2⟩ := hSw
    go_simp
    try with_reducible rfl
  show wpAnyZ _ _ _ _ _ _ _ _ (Act.put _ (some 25) _) _
  simp only [Act.put, List.setIfInBounds_toArray, List.set_cons_zero, List.set_cons_succ]
  refine wpAnyZ_take (i := 4) (v := ?_) rfl (by kernel_rfl) (by kernel_rfl) (by kernel_rfl) (fun _ _ _ h => h) (by kernel_rfl) (Or.inl ⟨by rfl, ?_⟩) (by assumption) ?_
  rotate_left
  · intro w' hSw
    try dsimp only at hSw
    try obtain ⟨hSw, hSw2⟩ := hSw
    go_simp
    try with_reducible rfl
  show wpAnyZ _ _ _ _ _ _ _ _ (Act.put _ (some 26) _) _
  simp only [Act.put, List.setIfInBounds_toArray, List.set_cons_zero, List.set_cons_succ]
  clear hSS
  refine wpAnyZ_one (i := 0) (by kernel_rfl) rfl rfl (fun K hK => ?_)
  go_simp
  refine (num13_any W5 2).mono ?_
  rintro e W6 ⟨rfl, hb⟩
  have HO := Lib.hid (HO.out.next hb)
  have HA := Lib.hid (HA.out.below _ hb (Nat.le_refl _))
  show K _ W6
  refine hK.out _ _ (.inr HO.out.cells) ?_
  clear hK hb
  refine wpAnyZ_one (i := 1) (by kernel_rfl) rfl rfl (fun K hK => ?_)
  go_simp
  refine (num13_any W6 3).mono ?_
  rintro e W7 ⟨rfl, hb⟩
  have HO := Lib.hid (HO.out.next hb)
  have HA := Lib.hid (HA.out.below _ hb (Nat.le_refl _))
  show K _ W7
  refine hK.out _ _ (.inr HO.out.cells) ?_
  clear hK hb
  refine wpAnyZ_one (i := 5) (by kernel_rfl) rfl rfl (fun K hK => ?_)
  go_simp
  obtain ⟨GHL, hG⟩ : ∃ G, W7.heap.size = G := ⟨_, rfl⟩
  have hb : Below W7.heap.size W7 (W7.alloc (.cells (lstB.flatMap opE).toArray 44)) := (Below.refl _ _).alloc (Nat.le_refl _) _
  have HL := Lib.hid (lits W7 (b0 0) (Nat.zero_le _) GHL 5 lstB _ rfl rfl (by decide) hG lstB_ok).cop
  have HO := Lib.hid (HO.out.next hb)
  have HA := Lib.hid (HA.out.below _ hb (Nat.le_refl _))
  rw [hG]
  obtain ⟨W8, hY⟩ : ∃ W, W7.alloc (.cells (lstB.flatMap opE).toArray 44) = W := ⟨_, rfl⟩
  rw [hY] at HO HA HL
  show K _ (W7.alloc (.cells (lstB.flatMap opE).toArray 44))
  rw [hY]
  refine hK.out _ _ (.inr HO.out.cells) ?_
  clear hK hb hY hG
  refine wpAnyZ_one (i := 6) (by kernel_rfl) rfl rfl (fun K hK => ?_)
  go_simp
  have hq := ops13_at W8 (some ⟨GHL, 0, none⟩) 5 _ lstB HL.out (by decide)
  rw [opsB] at hq
  refine hq.mono ?_
  rintro e W9 ⟨⟨v, rfl, hv⟩, hb⟩
  obtain ⟨aHB, cHB, rfl, -, -⟩ := hv.form
  have HB := Lib.hid hv
  have HO := Lib.hid (HO.out.next hb)
  have HA := Lib.hid (HA.out.below _ hb (Nat.le_refl _))
  have HL := Lib.hid (HL.out.below _ hb (Nat.le_refl _))
  show K _ W9
  refine hK.out _ _ (.inr HO.out.cells) ?_
  clear hK
  clear hq hv hb
  clear HL
  have hSS : (fun W' : World => W'.cell? ⟨z, 0, none⟩ = some (.int .i64 3) ∧ W'.cell? ⟨z, 1, none⟩ = some (.int .i64 0) ∧ W'.cell? ⟨z, 2, none⟩ = some (.int .i64 0) ∧ W'.cell? ⟨z, 3, none⟩ = some (.slice none 0 0) ∧ W'.cell? ⟨z, 4, none⟩ = some (.int .u8 0)) W9 := HO.out.cells
  refine wpAnyZ_take (i := 7) (v := ?_) rfl (by kernel_rfl) (by kernel_rfl) (by kernel_rfl) (fun _ _ _ h => h) (by kernel_rfl) (Or.inl ⟨by rfl, ?_⟩) (by assumption) ?_
  rotate_left
  · intro w' hSw
    try dsimp only at hSw
    try obtain ⟨hSw, hSw2⟩ := hSw
    go_simp
    try with_reducible rfl
  show wpAnyZ _ _ _ _ _ _ _ _ (Act.put _ (some 21) _) _
  simp only [Act.put, List.setIfInBounds_toArray, List.set_cons_zero, List.set_cons_succ]
  refine wpAnyZ_take (i := 8) (v := ?_) rfl (by kernel_rfl) (by kernel_rfl) (by kernel_rfl) (fun _ _ _ h => h) (by kernel_rfl) (Or.inl ⟨by rfl, ?_⟩) (by assumption) ?_
  rotate_left
  · intro w' hSw
    try dsimp only at hSw
    try obtain ⟨hSw, hSw2⟩ := hSw
    go_simp
    try with_reducible rfl
  show wpAnyZ _ _ _ _ _ _ _ _ (Act.put _ (some 29) _) _
  simp only [Act.put, List.setIfInBounds_toArray, List.set_cons_zero, List.set_cons_succ]
  refine wpAnyZ_take (i := 9) (v := ?_) rfl (by kernel_rfl) (by kernel_rfl) (by kernel_rfl) (fun _ _ _ h => h) (by kernel_rfl) (Or.inl ⟨by rfl, ?_⟩) (by assumption) ?_
  rotate_left
  · intro w' hSw
    try dsimp only at hSw
    try obtain ⟨hSw, hSw2⟩ := hSw
    go_simp
    try with_reducible rfl
  show wpAnyZ _ _ _ _ _ _ _ _ (Act.put _ (some 30) _) _
  simp only [Act.put, List.setIfInBounds_toArray, List.set_cons_zero, List.set_cons_succ]
  refine wpAnyZ_take (i := 10) (v := ?_) rfl (by kernel_rfl) (by kernel_rfl) (by kernel_rfl) (fun _ _ _ h => h) (by kernel_rfl) (Or.inl ⟨by rfl, ?_⟩) (by assumption) ?_
  rotate_left
  · intro w' hSw
    try dsimp only at hSw
    try obtain ⟨hSw, hSw2⟩ := hSw
    go_simp
    try with_reducible rfl
  show wpAnyZ _ _ _ _ _ _ _ _ (Act.put _ (some 4) _) _
  simp only [Act.put, List.setIfInBounds_toArray, List.set_cons_zero, List.set_cons_succ]
  clear hSS
  refine wpAnyZ_one (i := 11) (by kernel_rfl) rfl rfl (fun K hK => ?_)
  go_simp
  refine hK.out _ _ (.inl (by omega)) ?_
  clear hK
  refine wpAnyZ_done (by kernel_rfl) ?_ _
  go_wp2_with fail
  refine (num13_any W9 0).mono ?_
  rintro e W10 ⟨rfl, hb⟩
  have HO := Lib.hid (HO.out.next hb)
  have HA := Lib.hid (HA.out.below _ hb (Nat.le_refl _))
  have HB := Lib.hid (HB.out.below _ hb (Nat.le_refl _))
  clear hb
  go_wp2_with fail
  refine (num13_any W10 5).mono ?_
  rintro e W11 ⟨rfl, hb⟩
  have HO := Lib.hid (HO.out.next hb)
  have HA := Lib.hid (HA.out.below _ hb (Nat.le_refl _))
  have HB := Lib.hid (HB.out.below _ hb (Nat.le_refl _))
  clear hb
  go_wp2_with fail
  obtain ⟨GZ, hG⟩ : ∃ G, W11.heap.size = G := ⟨_, rfl⟩
  have hb : Below W11.heap.size W11 (W11.alloc (.cells (lstC.flatMap opE).toArray 44)) := (Below.refl _ _).alloc (Nat.le_refl _) _
  have HZ := Lib.hid (lits W11 (b0 0) (Nat.zero_le _) GZ 4 lstC _ rfl rfl (by decide) hG lstC_ok).cop
  have HO := Lib.hid (HO.out.next hb)
  have HA := Lib.hid (HA.out.below _ hb (Nat.le_refl _))
  have HB := Lib.hid (HB.out.below _ hb (Nat.le_refl _))
  rw [hG]
  obtain ⟨W12, hY⟩ : ∃ W, W11.alloc (.cells (lstC.flatMap opE).toArray 44) = W := ⟨_, rfl⟩
  rw [hY] at HO HA HB HZ
  rw [show W11.alloc (.cells #[.int .i64 1, .int .i64 0, .int .i64 0, .slice none 0 0, .int .u8 0, .int .i64 1, .int .i64 0, .int .i64 5, .slice none 0 0, .int .u8 0, .int .i64 4, .int .i64 1, .int .i64 0, .slice none 0 0, .int .u8 0, .int .i64 6, .int .i64 0, .int .i64 0, .slice none 0 0, .int .u8 3] 44) = W12 from hY]
  clear hb hY hG
  have hq := ops13_at W12 (some ⟨GZ, 0, none⟩) 4 _ lstC HZ.out (by decide)
  rw [opsZ] at hq
  refine hq.mono ?_
  rintro e W13 ⟨⟨v, rfl, hv⟩, hb⟩
  obtain ⟨aHC, cHC, rfl, -, -⟩ := hv.form
  have HC := Lib.hid hv
  have HO := Lib.hid (HO.out.next hb)
  have HA := Lib.hid (HA.out.below _ hb (Nat.le_refl _))
  have HB := Lib.hid (HB.out.below _ hb (Nat.le_refl _))
  have HZ := Lib.hid (HZ.out.below _ hb (Nat.le_refl _))
  clear hq hv hb
  go_wp2_with fail
  have hq := ops13_at W13 none 0 _ [] (Rep.Sl.nil _ _) (by decide)
  rw [opsN] at hq
  refine hq.mono ?_
  rintro e W14 ⟨⟨v, rfl, hv⟩, hb⟩
  obtain ⟨an, cn, rfl, -, -⟩ := hv.form
  have HO := Lib.hid (HO.out.next hb)
  have HA := Lib.hid (HA.out.below _ hb (Nat.le_refl _))
  have HB := Lib.hid (HB.out.below _ hb (Nat.le_refl _))
  have HZ := Lib.hid (HZ.out.below _ hb (Nat.le_refl _))
  have HC := Lib.hid (HC.out.below _ hb (Nat.le_refl _))
  clear hq hv hb
  go_upto_region 7 with fail
  refine wp_region_Z (S := fun W' => W'.cell? ⟨z, 0, none⟩ = some (.int .i64 3) ∧ W'.cell? ⟨z, 1, none⟩ = some (.int .i64 0) ∧ W'.cell? ⟨z, 2, none⟩ = some (.int .i64 0) ∧ W'.cell? ⟨z, 3, none⟩ = some (.slice none 0 0) ∧ W'.cell? ⟨z, 4, none⟩ = some (.int .u8 0)) (z := 12) (by kernel_rfl) ?_
  have hdr : Below W14.heap.size W14 W14.drew := (Below.refl _ _).drew
  have HO := Lib.hid (HO.out.next hdr)
  have HA := Lib.hid (HA.out.below _ hdr (Nat.le_refl _))
  have HB := Lib.hid (HB.out.below _ hdr (Nat.le_refl _))
  have HZ := Lib.hid (HZ.out.below _ hdr (Nat.le_refl _))
  have HC := Lib.hid (HC.out.below _ hdr (Nat.le_refl _))
  clear hdr
  obtain ⟨W15, hW15⟩ : ∃ W, W14.drew = W := ⟨_, rfl⟩
  rw [hW15] at HO HA HB HZ HC ⊢
  clear hW15
  have hSS : (fun W' : World => W'.cell? ⟨z, 0, none⟩ = some (.int .i64 3) ∧ W'.cell? ⟨z, 1, none⟩ = some (.int .i64 0) ∧ W'.cell? ⟨z, 2, none⟩ = some (.int .i64 0) ∧ W'.cell? ⟨z, 3, none⟩ = some (.slice none 0 0) ∧ W'.cell? ⟨z, 4, none⟩ = some (.int .u8 0)) W15 := HO.out.cells
  refine wpAnyZ_take (i := 0) (v := ?_) rfl (by kernel_rfl) (by kernel_rfl) (by kernel_rfl) (fun _ _ _ h => h) (by kernel_rfl) (Or.inl ⟨by rfl, ?_⟩) (by assumption) ?_
  rotate_left
  · intro w' hSw
    try dsimp only at hSw
    try obtain ⟨hSw, hSw2⟩ := hSw
    go_simp
    try with_reducible rfl
  show wpAnyZ _ _ _ _ _ _ _ _ (Act.put _ (some 45) _) _
  simp only [Act.put, List.setIfInBounds_toArray, List.set_cons_zero, List.set_cons_succ]
  refine wpAnyZ_take (i := 1) (v := ?_) rfl (by kernel_rfl) (by kernel_rfl) (by kernel_rfl) (fun _ _ _ h => h) (by kernel_rfl) (Or.inl ⟨by rfl, ?_⟩) (by assumption) ?_
  rotate_left
  · intro w' hSw
    try dsimp only at hSw
    try obtain ⟨hSw, hSw2⟩ := hSw
    go_simp
    try with_reducible rfl
  show wpAnyZ _ _ _ _ _ _ _ _ (Act.put _ (some 46) _) _
  simp only [Act.put, List.setIfInBounds_toArray, List.set_cons_zero, List.set_cons_succ]
  clear hSS
  refine wpAnyZ_one (i := 2) (by kernel_rfl) rfl rfl (fun K hK => ?_)
  go_simp
  obtain ⟨GHP, hG⟩ : ∃ G, W15.heap.size = G := ⟨_, rfl⟩
  have hb : Below W15.heap.size W15 (W15.alloc (.cells (lstP.flatMap opE).toArray 44)) := (Below.refl _ _).alloc (Nat.le_refl _) _
  have HP := Lib.hid (lits W15 (b0 0) (Nat.zero_le _) GHP 1 lstP _ rfl rfl (by decide) hG lstP_ok).cop
  have HO := Lib.hid (HO.out.next hb)
  have HA := Lib.hid (HA.out.below _ hb (Nat.le_refl _))
  have HB := Lib.hid (HB.out.below _ hb (Nat.le_refl _))
  have HZ := Lib.hid (HZ.out.below _ hb (Nat.le_refl _))
  have HC := Lib.hid (HC.out.below _ hb (Nat.le_refl _))
  rw [hG]
  obtain ⟨W16, hY⟩ : ∃ W, W15.alloc (.cells (lstP.flatMap opE).toArray 44) = W := ⟨_, rfl⟩
  rw [hY] at HO HA HB HZ HC HP
  show K _ (W15.alloc (.cells (lstP.flatMap opE).toArray 44))
  rw [hY]
  refine hK.out _ _ (.inr HO.out.cells) ?_
  clear hK hb hY hG
  refine wpAnyZ_one (i := 3) (by kernel_rfl) rfl rfl (fun K hK => ?_)
  go_simp
  have hq := rops11_at W16 _ _ _ _ _ _ _ _ HA.out HP.out
  rw [sameP] at hq
  refine hq.mono ?_
  rintro e W17 ⟨rfl, hb⟩
  have HO := Lib.hid (HO.out.next hb)
  have HA := Lib.hid (HA.out.below _ hb (Nat.le_refl _))
  have HB := Lib.hid (HB.out.below _ hb (Nat.le_refl _))
  have HZ := Lib.hid (HZ.out.below _ hb (Nat.le_refl _))
  have HC := Lib.hid (HC.out.below _ hb (Nat.le_refl _))
  have HP := Lib.hid (HP.out.below _ hb (Nat.le_refl _))
  show K _ W17
  refine hK.out _ _ (.inr HO.out.cells) ?_
  clear hK
  clear hq hb
  have hSS : (fun W' : World => W'.cell? ⟨z, 0, none⟩ = some (.int .i64 3) ∧ W'.cell? ⟨z, 1, none⟩ = some (.int .i64 0) ∧ W'.cell? ⟨z, 2, none⟩ = some (.int .i64 0) ∧ W'.cell? ⟨z, 3, none⟩ = some (.slice none 0 0) ∧ W'.cell? ⟨z, 4, none⟩ = some (.int .u8 0)) W17 := HO.out.cells
  refine wpAnyZ_take (i := 4) (v := ?_) rfl (by kernel_rfl) (by kernel_rfl) (by kernel_rfl) (fun _ _ _ h => h) (by kernel_rfl) (Or.inl ⟨by rfl, ?_⟩) (by assumption) ?_
  rotate_left
  · intro w' hSw
    try dsimp only at hSw
    try obtain ⟨hSw, hSw2⟩ := hSw
    go_simp
    try with_reducible rfl
  show wpAnyZ _ _ _ _ _ _ _ _ (Act.put _ (some 49) _) _
  simp only [Act.put, List.setIfInBounds_toArray, List.set_cons_zero, List.set_cons_succ]
  refine wpAnyZ_take (i := 5) (v := ?_) rfl (by kernel_rfl) (by kernel_rfl) (by kernel_rfl) (fun _ _ _ h => h) (by kernel_rfl) (Or.inl ⟨by rfl, ?_⟩) (by assumption) ?_
  rotate_left
  · intro w' hSw
    try dsimp only at hSw
    try obtain ⟨hSw, hSw2⟩ := hSw
    go_simp
    try with_reducible rfl
  show wpAnyZ _ _ _ _ _ _ _ _ (Act.put _ (some 50) _) _
  simp only [Act.put, List.setIfInBounds_toArray, List.set_cons_zero, List.set_cons_succ]
  refine wpAnyZ_take (i := 7) (v := ?_) rfl (by kernel_rfl) (by kernel_rfl) (by kernel_rfl) (fun _ _ _ h => h) (by kernel_rfl) (Or.inl ⟨by rfl, ?_⟩) (by assumption) ?_
  rotate_left
  · intro w' hSw
    try dsimp only at hSw
    try obtain ⟨hSw, hSw2⟩ := hSw
    go_simp
    try with_reducible rfl
  show wpAnyZ _ _ _ _ _ _ _ _ (Act.put _ (some 52) _) _
  simp only [Act.put, List.setIfInBounds_toArray, List.set_cons_zero, List.set_cons_succ]
  refine wpAnyZ_take (i := 8) (v := ?_) rfl (by kernel_rfl) (by kernel_rfl) (by kernel_rfl) (fun _ _ _ h => h) (by kernel_rfl) (Or.inl ⟨by rfl, ?_⟩) (by assumption) ?_
  rotate_left
  · intro w' hSw
    try dsimp only at hSw
    try obtain ⟨hSw, hSw2⟩ := hSw
    go_simp
    try with_reducible rfl
  show wpAnyZ _ _ _ _ _ _ _ _ (Act.put _ (some 53) _) _
  simp only [Act.put, List.setIfInBounds_toArray, List.set_cons_zero, List.set_cons_succ]
  clear hSS
  refine wpAnyZ_oneG (i := 6) (by kernel_rfl) rfl (by rfl) (fun K hK => ?_)
  go_simp
  refine (num13_any W17 6).mono ?_
  rintro e W18 ⟨rfl, hb⟩
  have HO := Lib.hid (HO.out.next hb)
  have HA := Lib.hid (HA.out.below _ hb (Nat.le_refl _))
  have HB := Lib.hid (HB.out.below _ hb (Nat.le_refl _))
  have HZ := Lib.hid (HZ.out.below _ hb (Nat.le_refl _))
  have HC := Lib.hid (HC.out.below _ hb (Nat.le_refl _))
  have HP := Lib.hid (HP.out.below _ hb (Nat.le_refl _))
  show K _ W18
  refine hK.out _ _ (.inr HO.out.cells) ?_
  clear hK hb
  refine wpAnyZ_oneG (i := 9) (by kernel_rfl) rfl (by rfl) (fun K hK => ?_)
  go_simp
  obtain ⟨GHQ, hG⟩ : ∃ G, W18.heap.size = G := ⟨_, rfl⟩
  have hb : Below W18.heap.size W18 (W18.alloc (.cells (lstQ.flatMap opE).toArray 44)) := (Below.refl _ _).alloc (Nat.le_refl _) _
  have HQ := Lib.hid (lits W18 (b0 0) (Nat.zero_le _) GHQ 3 lstQ _ rfl rfl (by decide) hG lstQ_ok).cop
  have HO := Lib.hid (HO.out.next hb)
  have HA := Lib.hid (HA.out.below _ hb (Nat.le_refl _))
  have HB := Lib.hid (HB.out.below _ hb (Nat.le_refl _))
  have HZ := Lib.hid (HZ.out.below _ hb (Nat.le_refl _))
  have HC := Lib.hid (HC.out.below _ hb (Nat.le_refl _))
  have HP := Lib.hid (HP.out.below _ hb (Nat.le_refl _))
  rw [hG]
  obtain ⟨W19, hY⟩ : ∃ W, W18.alloc (.cells (lstQ.flatMap opE).toArray 44) = W := ⟨_, rfl⟩
  rw [hY] at HO HA HB HZ HC HP HQ
  show K _ (W18.alloc (.cells (lstQ.flatMap opE).toArray 44))
  rw [hY]
  refine hK.out _ _ (.inr HO.out.cells) ?_
  clear hK hb hY hG
  refine wpAnyZ_oneG (i := 10) (by kernel_rfl) rfl (by rfl) (fun K hK => ?_)
  go_simp
  have hq := rops11_at W19 _ _ _ _ _ _ _ _ HB.out HQ.out
  rw [sameQ] at hq
  refine hq.mono ?_
  rintro e W20 ⟨rfl, hb⟩
  have HO := Lib.hid (HO.out.next hb)
  have HA := Lib.hid (HA.out.below _ hb (Nat.le_refl _))
  have HB := Lib.hid (HB.out.below _ hb (Nat.le_refl _))
  have HZ := Lib.hid (HZ.out.below _ hb (Nat.le_refl _))
  have HC := Lib.hid (HC.out.below _ hb (Nat.le_refl _))
  have HP := Lib.hid (HP.out.below _ hb (Nat.le_refl _))
  have HQ := Lib.hid (HQ.out.below _ hb (Nat.le_refl _))
  show K _ W20
  refine hK.out _ _ (.inr HO.out.cells) ?_
  clear hK
  clear hq hb
  have hSS : (fun W' : World => W'.cell? ⟨z, 0, none⟩ = some (.int .i64 3) ∧ W'.cell? ⟨z, 1, none⟩ = some (.int .i64 0) ∧ W'.cell? ⟨z, 2, none⟩ = some (.int .i64 0) ∧ W'.cell? ⟨z, 3, none⟩ = some (.slice none 0 0) ∧ W'.cell? ⟨z, 4, none⟩ = some (.int .u8 0)) W20 := HO.out.cells
  refine wpAnyZ_take (i := 11) (v := ?_) rfl (by kernel_rfl) (by kernel_rfl) (by kernel_rfl) (fun _ _ _ h => h) (by kernel_rfl) (Or.inl ⟨by rfl, ?_⟩) (by assumption) ?_
  rotate_left
  · intro w' hSw
    try dsimp only at hSw
    try obtain ⟨hSw, hSw2⟩ := hSw
    go_simp
    try with_reducible rfl
  show wpAnyZ _ _ _ _ _ _ _ _ (Act.put _ (some 56) _) _
  simp only [Act.put, List.setIfInBounds_toArray, List.set_cons_zero, List.set_cons_succ]
  clear hSS
  refine wpAnyZ_one (i := 12) (by kernel_rfl) rfl rfl (fun K hK => ?_)
  go_simp
  refine hK.out _ _ (.inl (by omega)) ?_
  clear hK
  refine wpAnyZ_done (by kernel_rfl) ?_ _
  go_wp2_with fail
  have hq := rops11_at W20 _ _ _ _ _ _ _ _ HC.out HZ.out
  rw [sameC] at hq
  refine hq.mono ?_
  rintro e W21 ⟨rfl, hb⟩
  have HO := Lib.hid (HO.out.next hb)
  have HA := Lib.hid (HA.out.below _ hb (Nat.le_refl _))
  have HB := Lib.hid (HB.out.below _ hb (Nat.le_refl _))
  have HZ := Lib.hid (HZ.out.below _ hb (Nat.le_refl _))
  have HC := Lib.hid (HC.out.below _ hb (Nat.le_refl _))
  have HP := Lib.hid (HP.out.below _ hb (Nat.le_refl _))
  have HQ := Lib.hid (HQ.out.below _ hb (Nat.le_refl _))
  clear hq hb
  go_wp2_with fail
  go_ret
  exact ⟨rfl, HO.out.b⟩
end Go.Proofs.Ytmlfeocdcjhhaaa
