import Derived.Test.YtokghjnkfabgiaaGreatDoorTD18
import Derived.Test.YtokghjnkfabgiaaGreatDoorTD8
import Derived.Test.YtokghjnkfabgiaaGreatDoorTD17
set_option linter.unusedVariables false
set_option linter.unusedSimpArgs false
set_option maxRecDepth 100000
namespace Go.Proofs.YtokghjnkfabgiaaGreatDoor
open Go.RowKit Go.Lib
attribute [local go_sem] str_size str_get str_toList

structure PG where
 p : Pc
 g : Nat
 cap : Nat
def wcells (ws : List Str) : List Value := ws.map fun s => .string (str s)
theorem wcells_len (ws : List Str) : (wcells ws).length = ws.length := by simp [wcells]
theorem wcells_one (ws : List Str) : ∀ v ∈ wcells ws, v.oneCell' = true := by
 intro v hv
 obtain ⟨s, _, rfl⟩ := List.mem_map.1 hv
 rfl
def PG.val (x : PG) : Value := .slice (some ⟨x.g, 0, none⟩) x.p.words.length x.cap
def PG.cells (x : PG) : List Value := [x.val, .int .i64 x.p.nest, .int .i64 x.p.tokens, .bool x.p.plain]
def PG.Own (x : PG) (w : World) (M : Nat) : Prop := w.ownsRow M 9 1 x.val x.p.words.length (wcells x.p.words) ∧ x.p.words ≠ []
theorem results_oper {fn : Func} {p q : Tmp} (h : fn.results = #[.cell p 172, .tmp q]) (tmps : Array Value) (w : World) {cs : Array Value} {g : Nat} {y : Value}
  (hp : tmps.getD p undef = .pointer (some ⟨g, 0, none⟩)) (hg : w.heap[g]? = some (.cells cs 172 (0, 0))) (hs : (Tryz.prog.info? 172).map (·.size) = some cs.size) (hy : tmps.getD q undef = y) :
  (results fn tmps).run Tryz.prog w = .ok (.tuple #[.agg cs, y]) w := by
 have hp' : tmps[p]?.getD undef = .pointer (some ⟨g, 0, none⟩) := by simpa using hp
 have hy' : tmps[q]?.getD undef = y := by simpa using hy
 simp [results, h, hp', hy', asAddr, run_loadVar_row w g 172 172 cs (0, 0) _ hg Tryz.underlying172 rfl hs]
theorem wp_storeW {P : Program} {o : Oper} {a : Act} {w : World} {K : Act → World → Prop} {Q : Exit → Act → World → Prop} (ty : TypeId) (x y : Operand) (ho : o.op = .store ty x y)
  (g : Nat) (hx : a.eval x = .pointer (some ⟨g, 0, none⟩)) (c c' : Array Value) (hy : a.eval y = .agg c') (t : TypeId) (hg : w.heap[g]? = some (.cells c t (0, 0))) (hi : (P.info? ty).map (·.size) = some c'.size) (hs : c.size = c'.size) (h1 : (c'.toList.all fun v => v.oneCell') = true)
  (h : ∀ w', w'.heap[g]? = some (.cells c' t (0, 0)) → w.grownBy w' (some g) → K (a.put o.dst undef) w') : o.wp P a w K Q := by
 have hall : c'.all (·.oneCell') = true := Array.all_eq_true_iff_forall_mem.2 (fun v hv => List.all_eq_true.1 h1 v (by simpa using hv))
 unfold Oper.wp execOp
 simp only [ho, hx, hy, Instr.storeAt, Instr.sureAddr, Sem.run_bind, Sem.run_pure, Result.andThen_ok, run_storeVar_row (P := P) w g t ty c c' hg hi hs hall]
 exact h _ (setRow_heap w g _ _ t _ hg) ⟨rfl, rfl, rfl, by simp [World.setRow], fun j _ hj => setRow_other w g j _ (fun e => hj (by rw [e]))⟩
theorem own_lit {w : World} {M g : Nat} {s : Str} (hM : M ≤ g) (h : w.heap[g]? = some (.cells #[.string (str s)] 9 (0, 0))) : w.ownsRow M 9 1 (.slice (some ⟨g, 0, none⟩) 1 1) 1 [.string (str s)] :=
 ⟨rfl, .inr ⟨g, 1, _, rfl, hM, h, Nat.le_refl _, by decide, rfl, rfl⟩⟩
def OpE (w : World) (p : Pc) (e : Ending) (w' : World) : Prop := ∃ x : PG, x.p = p ∧ e = .returned (.tuple #[.agg x.cells.toArray, .bool true]) ∧ x.Own w' w.heap.size ∧ Below w.heap.size w w'
theorem nameW_len {s : Str} (h : nameW s = true) : s.length ≤ 65536 := by
 unfold nameW lexName at h
 simp only [Bool.and_eq_true] at h
 have h2 := h.2
 unfold lexP at h2
 by_cases hl : 65536 < s.length
 ·rw [if_pos hl] at h2; cases h2
 ·omega
set_option maxHeartbeats 4000000 in
theorem operand_name (w : World) (ht : TabT w) (s : Str) (a : Int) (nu : Value) (hn : RowI 0 w nu []) (hv : nameW s = true) :
  Calls Tryz.prog 103 #[.agg #[.int .i64 2, .int .i64 a, .int .u8 0, .string (str s), nu]] w (OpE w ⟨[s], 0, 1, true⟩) := by
 obtain ⟨na, nc, rfl, -, -⟩ := hn.slice
 have hname := fun W (hW : Below w.heap.size w W) => Name_any s W (ht.below hW) (by have := nameW_len hv; omega)
 rw [hv] at hname
 obtain ⟨y1, hy1⟩ : ∃ y, w.heap.size = y := ⟨_, rfl⟩
 rw [hy1] at hname
 have HN := Lib.hid hname
 clear hname hn ht
 have hb : Below w.heap.size w ((w.alloc (.cells #[.int .i64 2, .int .i64 a, .int .u8 0, .string (str s), .slice na 0 nc] 121)).alloc (.cells #[.slice none 0 0, .int .i64 0, .int .i64 0, .bool false] 172)) := ((Below.refl _ _).alloc (Nat.le_refl _) _).alloc (by simp) _
 obtain ⟨x0, x1⟩ := new2 (Below.refl _ ((w.alloc (.cells #[.int .i64 2, .int .i64 a, .int .u8 0, .string (str s), .slice na 0 nc] 121)).alloc (.cells #[.slice none 0 0, .int .i64 0, .int .i64 0, .bool false] 172)))
 have HX := Lib.hid (And.intro hb (And.intro x0 x1))
 clear hb x0 x1
 go_enter Tryz.func103, Tryz.ntmps103
 go_upto_region 2 with fail
 refine gen_worldA (fun W => Below w.heap.size w W ∧ W.heap[w.heap.size]? = _ ∧ W.heap[w.heap.size + 1]? = _) HX.out ?_
 clear HX
 rw [hy1]
 rintro W ⟨hb, x0, x1⟩
 obtain ⟨y2, hy2⟩ : ∃ y, y1 + 1 = y := ⟨_, rfl⟩
 rw [hy2] at x1 ⊢
 have hwl := block_lt x1
 refine wp_region_Z (S := fun W' => W'.cell? ⟨y1, 2, none⟩ = some (.int .u8 0) ∧ W'.cell? ⟨y1, 3, none⟩ = some (.string (str s)) ∧ W'.cell? ⟨y1, 4, none⟩ = some (.slice na 0 nc)) (z := 19) (by kernel_rfl) ?_
 have hSS : ∀ W', W'.heap[y1]? = some (.cells #[.int .i64 2, .int .i64 a, .int .u8 0, .string (str s), .slice na 0 nc] 121 (0, 0)) → (fun W' : World => W'.cell? ⟨y1, 2, none⟩ = some (.int .u8 0) ∧ W'.cell? ⟨y1, 3, none⟩ = some (.string (str s)) ∧ W'.cell? ⟨y1, 4, none⟩ = some (.slice na 0 nc)) W' := fun W' h => ⟨cell_of_row _ y1 2 _ _ _ h, cell_of_row _ y1 3 _ _ _ h, cell_of_row _ y1 4 _ _ _ h⟩
 have hb : Below y1 w W.drew := hb.drew
 have x0 : W.drew.heap[y1]? = _ := x0
 have x1 : W.drew.heap[y2]? = _ := x1
 have hwl : y2 < W.drew.heap.size := hwl
 generalize W.drew = W at hb x0 x1 hwl ⊢
 have hS0 := hSS _ x0
 refine wpAnyZ_take (i := 0) (v := ?_) rfl (by kernel_rfl) (by kernel_rfl) (by kernel_rfl) (fun _ _ _ h => h) (by kernel_rfl) (Or.inl ⟨by rfl, ?_⟩) (by assumption) ?_
 rotate_left
 ·intro w' hSw
  try dsimp only at hSw
  try obtain ⟨hSw, hSw2⟩ := hSw
  go_simp
  try with_reducible rfl
 show wpAnyZ _ _ _ _ _ _ _ _ (Act.put _ (some 10) _) _
 simp only [Act.put, List.setIfInBounds_toArray, List.set_cons_zero, List.set_cons_succ]
 refine wpAnyZ_take (i := 1) (v := ?_) rfl (by kernel_rfl) (by kernel_rfl) (by kernel_rfl) (fun _ _ _ h => h) (by kernel_rfl) (Or.inl ⟨by rfl, ?_⟩) (by assumption) ?_
 rotate_left
 ·intro w' hSw
  try dsimp only at hSw
  try obtain ⟨hSw, hSw2⟩ := hSw
  go_simp
  try with_reducible rfl
 show wpAnyZ _ _ _ _ _ _ _ _ (Act.put _ (some 11) _) _
 simp only [Act.put, List.setIfInBounds_toArray, List.set_cons_zero, List.set_cons_succ]
 refine wpAnyZ_take (i := 4) (v := ?_) rfl (by kernel_rfl) (by kernel_rfl) (by kernel_rfl) (fun _ _ _ h => h) (by kernel_rfl) (Or.inl ⟨by rfl, ?_⟩) (by assumption) ?_
 rotate_left
 ·intro w' hSw
  try dsimp only at hSw
  try obtain ⟨hSw, hSw2⟩ := hSw
  go_simp
  try with_reducible rfl
 show wpAnyZ _ _ _ _ _ _ _ _ (Act.put _ (some 14) _) _
 simp only [Act.put, List.setIfInBounds_toArray, List.set_cons_zero, List.set_cons_succ]
 refine wpAnyZ_take (i := 5) (v := ?_) rfl (by kernel_rfl) (by kernel_rfl) (by kernel_rfl) (fun _ _ _ h => h) (by kernel_rfl) (Or.inl ⟨by rfl, ?_⟩) (by assumption) ?_
 rotate_left
 ·intro w' hSw
  try dsimp only at hSw
  try obtain ⟨hSw, hSw2⟩ := hSw
  go_simp
  try with_reducible rfl
 show wpAnyZ _ _ _ _ _ _ _ _ (Act.put _ (some 15) _) _
 simp only [Act.put, List.setIfInBounds_toArray, List.set_cons_zero, List.set_cons_succ]
 refine wpAnyZ_take (i := 6) (v := ?_) rfl (by kernel_rfl) (by kernel_rfl) (by kernel_rfl) (fun _ _ _ h => h) (by kernel_rfl) (Or.inl ⟨by rfl, ?_⟩) (by assumption) ?_
 rotate_left
 ·intro w' hSw
  try dsimp only at hSw
  try obtain ⟨hSw, hSw2⟩ := hSw
  go_simp
  try with_reducible rfl
 show wpAnyZ _ _ _ _ _ _ _ _ (Act.put _ (some 16) _) _
 simp only [Act.put, List.setIfInBounds_toArray, List.set_cons_zero, List.set_cons_succ]
 refine wpAnyZ_take (i := 7) (v := ?_) rfl (by kernel_rfl) (by kernel_rfl) (by kernel_rfl) (fun _ _ _ h => h) (by kernel_rfl) (Or.inl ⟨by rfl, ?_⟩) (by assumption) ?_
 rotate_left
 ·intro w' hSw
  try dsimp only at hSw
  try obtain ⟨hSw, hSw2⟩ := hSw
  go_simp
  try with_reducible rfl
 show wpAnyZ _ _ _ _ _ _ _ _ (Act.put _ (some 17) _) _
 simp only [Act.put, List.setIfInBounds_toArray, List.set_cons_zero, List.set_cons_succ]
 refine wpAnyZ_take (i := 8) (v := ?_) rfl (by kernel_rfl) (by kernel_rfl) (by kernel_rfl) (fun _ _ _ h => h) (by kernel_rfl) (Or.inl ⟨by rfl, ?_⟩) (by assumption) ?_
 rotate_left
 ·intro w' hSw
  try dsimp only at hSw
  try obtain ⟨hSw, hSw2⟩ := hSw
  go_simp
  try with_reducible rfl
 show wpAnyZ _ _ _ _ _ _ _ _ (Act.put _ (some 18) _) _
 simp only [Act.put, List.setIfInBounds_toArray, List.set_cons_zero, List.set_cons_succ]
 refine wpAnyZ_take (i := 9) (v := ?_) rfl (by kernel_rfl) (by kernel_rfl) (by kernel_rfl) (fun _ _ _ h => h) (by kernel_rfl) (Or.inl ⟨by rfl, ?_⟩) (by assumption) ?_
 rotate_left
 ·intro w' hSw
  try dsimp only at hSw
  try obtain ⟨hSw, hSw2⟩ := hSw
  go_simp
  try with_reducible rfl
 show wpAnyZ _ _ _ _ _ _ _ _ (Act.put _ (some 19) _) _
 simp only [Act.put, List.setIfInBounds_toArray, List.set_cons_zero, List.set_cons_succ]
 refine wpAnyZ_take (i := 10) (v := ?_) rfl (by kernel_rfl) (by kernel_rfl) (by kernel_rfl) (fun _ _ _ h => h) (by kernel_rfl) (Or.inl ⟨by rfl, ?_⟩) (by assumption) ?_
 rotate_left
 ·intro w' hSw
  try dsimp only at hSw
  try obtain ⟨hSw, hSw2⟩ := hSw
  go_simp
  try with_reducible rfl
 show wpAnyZ _ _ _ _ _ _ _ _ (Act.put _ (some 20) _) _
 simp only [Act.put, List.setIfInBounds_toArray, List.set_cons_zero, List.set_cons_succ]
 refine wpAnyZ_take (i := 11) (v := ?_) rfl (by kernel_rfl) (by kernel_rfl) (by kernel_rfl) (fun _ _ _ h => h) (by kernel_rfl) (Or.inl ⟨by rfl, ?_⟩) (by assumption) ?_
 rotate_left
 ·intro w' hSw
  try dsimp only at hSw
  try obtain ⟨hSw, hSw2⟩ := hSw
  go_simp
  try with_reducible rfl
 show wpAnyZ _ _ _ _ _ _ _ _ (Act.put _ (some 21) _) _
 simp only [Act.put, List.setIfInBounds_toArray, List.set_cons_zero, List.set_cons_succ]
 refine wpAnyZ_take (i := 12) (v := ?_) rfl (by kernel_rfl) (by kernel_rfl) (by kernel_rfl) (fun _ _ _ h => h) (by kernel_rfl) (Or.inl ⟨by rfl, ?_⟩) (by assumption) ?_
 rotate_left
 ·intro w' hSw
  try dsimp only at hSw
  try obtain ⟨hSw, hSw2⟩ := hSw
  go_simp
  try with_reducible rfl
 show wpAnyZ _ _ _ _ _ _ _ _ (Act.put _ (some 22) _) _
 simp only [Act.put, List.setIfInBounds_toArray, List.set_cons_zero, List.set_cons_succ]
 refine wpAnyZ_take (i := 13) (v := ?_) rfl (by kernel_rfl) (by kernel_rfl) (by kernel_rfl) (fun _ _ _ h => h) (by kernel_rfl) (Or.inl ⟨by rfl, ?_⟩) (by assumption) ?_
 rotate_left
 ·intro w' hSw
  try dsimp only at hSw
  try obtain ⟨hSw, hSw2⟩ := hSw
  go_simp
  try with_reducible rfl
 show wpAnyZ _ _ _ _ _ _ _ _ (Act.put _ (some 23) _) _
 simp only [Act.put, List.setIfInBounds_toArray, List.set_cons_zero, List.set_cons_succ]
 refine wpAnyZ_take (i := 14) (v := ?_) rfl (by kernel_rfl) (by kernel_rfl) (by kernel_rfl) (fun _ _ _ h => h) (by kernel_rfl) (Or.inl ⟨by rfl, ?_⟩) (by assumption) ?_
 rotate_left
 ·intro w' hSw
  try dsimp only at hSw
  try obtain ⟨hSw, hSw2⟩ := hSw
  go_simp
  try with_reducible rfl
 show wpAnyZ _ _ _ _ _ _ _ _ (Act.put _ (some 24) _) _
 simp only [Act.put, List.setIfInBounds_toArray, List.set_cons_zero, List.set_cons_succ]
 refine wpAnyZ_take (i := 15) (v := ?_) rfl (by kernel_rfl) (by kernel_rfl) (by kernel_rfl) (fun _ _ _ h => h) (by kernel_rfl) (Or.inl ⟨by rfl, ?_⟩) (by assumption) ?_
 rotate_left
 ·intro w' hSw
  try dsimp only at hSw
  try obtain ⟨hSw, hSw2⟩ := hSw
  go_simp
  try with_reducible rfl
 show wpAnyZ _ _ _ _ _ _ _ _ (Act.put _ (some 25) _) _
 simp only [Act.put, List.setIfInBounds_toArray, List.set_cons_zero, List.set_cons_succ]
 clear hS0
 refine wpAnyZ_twoG (i := 2) (j := 16) (by kernel_rfl) rfl rfl (by rfl) (by rfl) (fun K hK => ?_) (fun K hK => ?_)
 ·go_simp
  obtain ⟨g, hg⟩ : ∃ g, W.heap.size = g := ⟨_, rfl⟩
  have hd : Below W.heap.size W (W.alloc (.cells #[.string (str s)] 9)) := (Below.refl _ _).alloc (Nat.le_refl _) _
  have hG := World.alloc_heap_new W (.cells #[.string (str s)] 9)
  have hb1 := hb.alloc (by omega) (.cells #[.string (str s)] 9)
  have x01 := block_below x0 hd
  have x11 := block_below x1 hd
  rw [hg] at hG ⊢
  refine hK.out _ _ (.inr (hSS _ x01)) ?_
  clear hK hd x0 x1 hb
  generalize W.alloc (.cells #[.string (str s)] 9) = W1 at hb1 x01 x11 hG ⊢
  have hS0 := hSS _ x01
  refine wpAnyZ_take (i := 3) (v := ?_) rfl (by kernel_rfl) (by kernel_rfl) (by kernel_rfl) (fun _ _ _ h => h) (by kernel_rfl) (Or.inl ⟨by rfl, ?_⟩) (by assumption) ?_
  rotate_left
  ·intro w' hSw
   try dsimp only at hSw
   try obtain ⟨hSw, hSw2⟩ := hSw
   go_simp
   try with_reducible rfl
  show wpAnyZ _ _ _ _ _ _ _ _ (Act.put _ (some 13) _) _
  simp only [Act.put, List.setIfInBounds_toArray, List.set_cons_zero, List.set_cons_succ]
  clear hS0
  refine wpAnyZ_oneG (i := 16) (by kernel_rfl) rfl (by rfl) (fun K hK => ?_)
  go_simp
  refine (HN.out W1 hb1).mono ?_
  rintro e W2 ⟨rfl, hb2⟩
  have x02 := block_below x01 hb2
  have x12 := block_below x11 hb2
  have hG2 := block_below hG hb2
  have hb3 := hb1.trans (hb2.mono (by have := block_lt x01; omega))
  refine hK.out _ _ (.inr (hSS _ x02)) ?_
  have hyg : y2 ≠ g := by omega
  clear hK x01 x11 hG hb2 hb1
  have hS0 := hSS _ x02
  refine wpAnyZ_take (i := 17) (v := ?_) rfl (by kernel_rfl) (by kernel_rfl) (by kernel_rfl) (fun _ _ _ h => h) (by kernel_rfl) (Or.inl ⟨by rfl, ?_⟩) (by assumption) ?_
  rotate_left
  ·intro w' hSw
   try dsimp only at hSw
   try obtain ⟨hSw, hSw2⟩ := hSw
   go_simp
   try with_reducible rfl
  show wpAnyZ _ _ _ _ _ _ _ _ (Act.put _ (some 27) _) _
  simp only [Act.put, List.setIfInBounds_toArray, List.set_cons_zero, List.set_cons_succ]
  clear hS0
  refine wpAnyZ_oneG (i := 18) (by kernel_rfl) rfl (by rfl) (fun K hK => ?_)
  refine wp_storeW 172 _ _ rfl y2 rfl _ #[.slice (some ⟨g, 0, none⟩) 1 1, .int .i64 0, .int .i64 1, .bool true] rfl _ x12 (by kernel_rfl) rfl rfl ?_
  intro W3 x13 hg3
  have x03 := block_grown x02 hg3 (by simp; omega)
  have hG3 := block_grown hG2 hg3 (fun e => hyg (Option.some.inj e))
  have hb4 := hb3.grown hg3 (by have := hb3.size; omega) (fun k hk => by cases hk; omega)
  refine hK.out _ _ (.inr (hSS _ x03)) ?_
  clear hK x02 x12 hG2 hb3 hg3
  refine wpAnyZ_oneG (i := 19) (by kernel_rfl) rfl (by rfl) (fun K hK => ?_)
  go_simp
  refine hK.out _ _ (.inl (by omega)) ?_
  clear hK
  refine wpAnyZ_done (by kernel_rfl) ?_ _
  go_wp2_with fail
  refine bodyPost_ret (results_oper rfl _ _ rfl x13 (by kernel_rfl) rfl) rfl ⟨⟨⟨[s], 0, 1, true⟩, g, 1⟩, rfl, rfl, ⟨own_lit (show w.heap.size ≤ g by omega) hG3, by simp⟩, by rw [hy1]; exact hb4⟩
  all_goals skip
 ·go_simp
  refine (HN.out W hb).mono ?_
  rintro e W1 ⟨rfl, hb2⟩
  have x01 := block_below x0 hb2
  have x11 := block_below x1 hb2
  have hb1 := hb.trans (hb2.mono (by have := block_lt x0; omega))
  refine hK.out _ _ (.inr (hSS _ x01)) ?_
  clear hK x0 x1 hb2 hb
  have hS0 := hSS _ x01
  refine wpAnyZ_take (i := 17) (v := ?_) rfl (by kernel_rfl) (by kernel_rfl) (by kernel_rfl) (fun _ _ _ h => h) (by kernel_rfl) (Or.inl ⟨by rfl, ?_⟩) (by assumption) ?_
  rotate_left
  ·intro w' hSw
   try dsimp only at hSw
   try obtain ⟨hSw, hSw2⟩ := hSw
   go_simp
   try with_reducible rfl
  show wpAnyZ _ _ _ _ _ _ _ _ (Act.put _ (some 27) _) _
  simp only [Act.put, List.setIfInBounds_toArray, List.set_cons_zero, List.set_cons_succ]
  clear hS0
  refine wpAnyZ_oneG (i := 2) (by kernel_rfl) rfl (by rfl) (fun K hK => ?_)
  go_simp
  obtain ⟨g, hg⟩ : ∃ g, W1.heap.size = g := ⟨_, rfl⟩
  have hd : Below W1.heap.size W1 (W1.alloc (.cells #[.string (str s)] 9)) := (Below.refl _ _).alloc (Nat.le_refl _) _
  have hG2 := World.alloc_heap_new W1 (.cells #[.string (str s)] 9)
  have hb3 := hb1.alloc (by have := hb1.size; omega) (.cells #[.string (str s)] 9)
  have x02 := block_below x01 hd
  have x12 := block_below x11 hd
  have hyg : y2 ≠ g := by have := block_lt x11; omega
  rw [hg] at hG2 ⊢
  refine hK.out _ _ (.inr (hSS _ x02)) ?_
  clear hK hd hb1
  generalize W1.alloc (.cells #[.string (str s)] 9) = W2 at hb3 x02 x12 hG2 ⊢
  have hS0 := hSS _ x02
  refine wpAnyZ_take (i := 3) (v := ?_) rfl (by kernel_rfl) (by kernel_rfl) (by kernel_rfl) (fun _ _ _ h => h) (by kernel_rfl) (Or.inl ⟨by rfl, ?_⟩) (by assumption) ?_
  rotate_left
  ·intro w' hSw
   try dsimp only at hSw
   try obtain ⟨hSw, hSw2⟩ := hSw
   go_simp
   try with_reducible rfl
  show wpAnyZ _ _ _ _ _ _ _ _ (Act.put _ (some 13) _) _
  simp only [Act.put, List.setIfInBounds_toArray, List.set_cons_zero, List.set_cons_succ]
  clear hS0
  have hyw : y1 ≤ g := by have := block_lt x01; omega
  clear x01 x11
  refine wpAnyZ_oneG (i := 18) (by kernel_rfl) rfl (by rfl) (fun K hK => ?_)
  refine wp_storeW 172 _ _ rfl y2 rfl _ #[.slice (some ⟨g, 0, none⟩) 1 1, .int .i64 0, .int .i64 1, .bool true] rfl _ x12 (by kernel_rfl) rfl rfl ?_
  intro W3 x13 hg3
  have x03 := block_grown x02 hg3 (by simp; omega)
  have hG3 := block_grown hG2 hg3 (fun e => hyg (Option.some.inj e))
  have hb4 := hb3.grown hg3 (by have := hb3.size; omega) (fun k hk => by cases hk; omega)
  refine hK.out _ _ (.inr (hSS _ x03)) ?_
  clear hK x02 x12 hG2 hb3 hg3
  refine wpAnyZ_oneG (i := 19) (by kernel_rfl) rfl (by rfl) (fun K hK => ?_)
  go_simp
  refine hK.out _ _ (.inl (by omega)) ?_
  clear hK
  refine wpAnyZ_done (by kernel_rfl) ?_ _
  go_wp2_with fail
  refine bodyPost_ret (results_oper rfl _ _ rfl x13 (by kernel_rfl) rfl) rfl ⟨⟨⟨[s], 0, 1, true⟩, g, 1⟩, rfl, rfl, ⟨own_lit (show w.heap.size ≤ g by omega) hG3, by simp⟩, by rw [hy1]; exact hb4⟩
  all_goals skip
end Go.Proofs.YtokghjnkfabgiaaGreatDoor

namespace Go.Proofs.YtokghjnkfabgiaaGreatDoor
open Go.RowKit Go.Lib
attribute [local go_sem] str_size str_get str_toList

def strR : Rep Str := Rep.flat 1 (fun s => [.string (str s)]) (fun _ => True) (fun _ => rfl) (by intro x v hv; cases List.mem_singleton.1 hv; rfl)
theorem keep_str (B : Nat) (t : TypeId) : KeepR strR B t := fun _ _ _ _ _ _ h => h
theorem str_cs {w : World} : ∀ {ws : List Str} {cs : List Value}, strR.Cs w cs ws → cs = wcells ws
 | [], cs, h => h
 | x :: ws, cs, ⟨ds, r, e, ⟨h1, _⟩, h2⟩ => by rw [e, h1, str_cs h2]; rfl
theorem RowG.words {M : Nat} {w : World} {v : Value} {ws : List Str} (h : RowG strR M 9 w v ws) : w.ownsRow M 9 1 v ws.length (wcells ws) := by
 obtain ⟨cs, h1, h2⟩ := h
 rw [str_cs h2] at h1
 exact h1
theorem words_val {M : Nat} {w : World} {v : Value} {ws : List Str} (h : w.ownsRow M 9 1 v ws.length (wcells ws)) (h0 : ws ≠ []) : ∃ g cap, v = .slice (some ⟨g, 0, none⟩) ws.length cap ∧ M ≤ g := by
 obtain ⟨_, ⟨_, h2⟩ | ⟨g, cap, cur, rfl, hg, _⟩⟩ := h
 ·exact absurd (List.eq_nil_of_length_eq_zero h2) h0
 ·exact ⟨g, cap, rfl, hg⟩
structure OpN (w : World) (y2 y4 N : Nat) (W : World) (v : Value) (ws : List Str) : Prop where
 below : Below w.heap.size w W
 b2 : W.heap[y2]? = some (.cells #[.slice none 0 0, .int .i64 0, .int .i64 0, .bool false] 172 (0, 0))
 b4 : W.heap[y4]? = some (.cells #[v, .int .i64 0, .int .i64 (N : Int), .bool true] 172 (0, 0))
 row : RowG strR w.heap.size 9 W v ws
theorem OpN.next {w W W' : World} {y2 y4 N : Nat} {v : Value} {ws : List Str} (h : OpN w y2 y4 N W v ws) (hb : Below W.heap.size W W') : OpN w y2 y4 N W' v ws :=
 ⟨h.below.trans (hb.mono (by have := h.below.size; omega)), block_below h.b2 hb, block_below h.b4 hb, h.row.next hb⟩
set_option maxHeartbeats 4000000 in
theorem operand_num (w : World) (ht : TabT w) (nums : List Int) (a : Int) (nu : Value) (hn : RowI 0 w nu nums) (h0 : nums ≠ []) (hl : nums.length ≤ 256) (h64 : ∀ n ∈ nums, in64B n = true) :
  Calls Tryz.prog 103 #[.agg #[.int .i64 1, .int .i64 a, .int .u8 0, .string (str []), nu]] w (OpE w ⟨nums.map numStr, 0, nums.length, true⟩) := by
 obtain ⟨na, nc, rfl, hm, hcell⟩ := hn.slice
 have hb : Below w.heap.size w ((w.alloc (.cells #[.int .i64 1, .int .i64 a, .int .u8 0, .string (str []), .slice na nums.length nc] 121)).alloc (.cells #[.slice none 0 0, .int .i64 0, .int .i64 0, .bool false] 172)) := ((Below.refl _ _).alloc (Nat.le_refl _) _).alloc (by simp) _
 obtain ⟨x0, x1⟩ := new2 (Below.refl _ ((w.alloc (.cells #[.int .i64 1, .int .i64 a, .int .u8 0, .string (str []), .slice na nums.length nc] 121)).alloc (.cells #[.slice none 0 0, .int .i64 0, .int .i64 0, .bool false] 172)))
 have HX := Lib.hid (And.intro hb (And.intro x0 x1))
 have HC := Lib.hid hcell; have H64 := Lib.hid h64; have HT := Lib.hid ht
 clear hb x0 x1 hcell hn h64 ht
 have hn1 : 0 < nums.length := by
  cases nums with
  | nil => exact absurd rfl h0
  | cons x r => simp
 have q0 : ((nums.length : Int) == 0) = false := by rw [beq_eq_false_iff_ne]; omega
 have q256 : decide (256 < (nums.length : Int)) = false := decide_eq_false (by omega)
 have qq : ((nums.length : Int) == 0 || decide (256 < (nums.length : Int))) = false := by rw [q0, q256]; rfl
 obtain ⟨y1, hy1⟩ : ∃ y, w.heap.size = y := ⟨_, rfl⟩
 go_enter Tryz.func103, Tryz.ntmps103
 go_upto_region 5 with fail
 refine gen_worldA (fun W => Below w.heap.size w W ∧ W.heap[w.heap.size]? = _ ∧ W.heap[w.heap.size + 1]? = _) HX.out ?_
 clear HX
 rw [hy1]
 rintro W ⟨hb, x0, x1⟩
 obtain ⟨y2, hy2⟩ : ∃ y, y1 + 1 = y := ⟨_, rfl⟩
 rw [hy2] at x1 ⊢
 have c4 := cell_of_row _ y1 4 _ _ _ x0
 have HX := Lib.hid (And.intro hb (And.intro x0 x1))
 clear hb x0 x1
 go_upto_region 6 with fail
 have hx : OpN w y2 W.heap.size nums.length (W.alloc (.cells #[.slice none 0 0, .int .i64 0, .int .i64 nums.length, .bool true] 172)) (.slice none 0 0) [] := by
  obtain ⟨hb, x0, x1⟩ := HX.out
  have hd : Below W.heap.size W (W.alloc (.cells #[.slice none 0 0, .int .i64 0, .int .i64 nums.length, .bool true] 172)) := (Below.refl _ _).alloc (Nat.le_refl _) _
  exact ⟨by rw [hy1]; exact hb.alloc (by have := hb.size; omega) _, block_below x1 hd, World.alloc_heap_new _ _, RowG.nil _ _ _ _⟩
 have x0 := block_below HX.out.2.1 ((Below.refl _ _).alloc (Nat.le_refl _) (.cells #[.slice none 0 0, .int .i64 0, .int .i64 nums.length, .bool true] 172))
 have hy2w := block_lt HX.out.2.2
 obtain ⟨y4, hy4⟩ : ∃ y, W.heap.size = y := ⟨_, rfl⟩
 rw [hy4] at hx hy2w ⊢
 generalize W.alloc (.cells #[.slice none 0 0, .int .i64 0, .int .i64 nums.length, .bool true] 172) = W1 at hx x0 ⊢
 have c4 := cell_of_row _ y1 4 _ _ _ x0
 have HX1 := Lib.hid hx
 clear HX hx x0
 go_upto_region 7 with fail
 go_loopw [56] (fun v wr => ∃ (i : Nat) (u : Value), v = .int .i64 (i : Int) ∧ i ≤ nums.length ∧ OpN w y2 y4 nums.length wr u ((nums.take i).map numStr)) (fun v wr => nums.length - (Lib.intOf v).toNat)
 case atStart => exact ⟨0, _, rfl, Nat.zero_le _, HX1.out⟩
 case round =>
  clear HX1
  obtain ⟨i, u, rfl, hi, hx⟩ := hrel
  by_cases hil : i < nums.length
  ·have q : decide ((i : Int) < (nums.length : Int)) = true := decide_eq_true (by omega)
   obtain ⟨g1, f1, rfl, z1⟩ := HC.out i hil
   have hz := (hx.below.cell (World.block_lt_of_cell? _ _ z1)).trans z1
   have h64 := H64.out _ (List.getElem_mem hil)
   have htk : (nums.take (i + 1)).map numStr = (nums.take i).map numStr ++ [numStr nums[i]] := by rw [List.take_succ_eq_append_getElem hil, List.map_append]; rfl
   have hsn := fun W (hW : TabT W) => shownum_any nums[i] h64 W hW
   generalize nums[i] = num at hz htk hsn
   have HX := Lib.hid hx; have HTK := Lib.hid htk; have HSN := Lib.hid hsn
   clear hx htk hsn h64 z1
   go_upto_region 9 with fail
   obtain ⟨ua, uc, rfl⟩ := HX.out.row.form
   have hlu : ((nums.take i).map numStr).length = i := by simp; omega
   rw [hlu] at HX
   refine wp_region_Z (S := fun W' => W'.cell? ⟨y4, 0, none⟩ = some (.slice ua i uc)) (z := 7) (by kernel_rfl) ?_
   have HX2 := Lib.hid (HX.out.next (Below.drew (Below.refl _ _)))
   clear HX
   generalize wr.drew = W2 at HX2 ⊢
   have hS0 : (fun W' : World => W'.cell? ⟨y4, 0, none⟩ = some (.slice ua i uc)) W2 := cell_of_row _ y4 0 _ _ _ HX2.out.b4
   refine wpAnyZ_take (i := 0) (v := ?_) rfl (by kernel_rfl) (by kernel_rfl) (by kernel_rfl) (fun _ _ _ h => h) (by kernel_rfl) (Or.inl ⟨by rfl, ?_⟩) (by assumption) ?_
   rotate_left
   ·intro w' hSw
    try dsimp only at hSw
    try obtain ⟨hSw, hSw2⟩ := hSw
    go_simp
    try with_reducible rfl
   show wpAnyZ _ _ _ _ _ _ _ _ (Act.put _ (some 60) _) _
   simp only [Act.put, List.setIfInBounds_toArray, List.set_cons_zero, List.set_cons_succ]
   refine wpAnyZ_take (i := 1) (v := ?_) rfl (by kernel_rfl) (by kernel_rfl) (by kernel_rfl) (fun _ _ _ h => h) (by kernel_rfl) (Or.inl ⟨by rfl, ?_⟩) (by assumption) ?_
   rotate_left
   ·intro w' hSw
    try dsimp only at hSw
    try obtain ⟨hSw, hSw2⟩ := hSw
    go_simp
    try with_reducible rfl
   show wpAnyZ _ _ _ _ _ _ _ _ (Act.put _ (some 61) _) _
   simp only [Act.put, List.setIfInBounds_toArray, List.set_cons_zero, List.set_cons_succ]
   refine wpAnyZ_take (i := 2) (v := ?_) rfl (by kernel_rfl) (by kernel_rfl) (by kernel_rfl) (fun _ _ _ h => h) (by kernel_rfl) (Or.inl ⟨by rfl, ?_⟩) (by assumption) ?_
   rotate_left
   ·intro w' hSw
    try dsimp only at hSw
    try obtain ⟨hSw, hSw2⟩ := hSw
    go_simp
    try with_reducible rfl
   show wpAnyZ _ _ _ _ _ _ _ _ (Act.put _ (some 62) _) _
   simp only [Act.put, List.setIfInBounds_toArray, List.set_cons_zero, List.set_cons_succ]
   clear hS0
   refine wpAnyZ_oneG (i := 3) (by kernel_rfl) rfl (by rfl) (fun K hK => ?_)
   go_simp
   refine (HSN.out W2 (HT.out.below (HX2.out.below))).mono ?_
   rintro e W3 ⟨rfl, hb3⟩
   have hx3 := HX2.out.next hb3
   refine hK.out _ _ (.inr (cell_of_row _ y4 0 _ _ _ hx3.b4)) ?_
   clear hK hb3 HX2
   refine wpAnyZ_oneG (i := 4) (by kernel_rfl) rfl (by rfl) (fun K hK => ?_)
   go_simp
   have hx4 := hx3.next ((Below.refl _ _).alloc (Nat.le_refl _) (.cells #[.string (str (numStr num))] 9))
   have hG := World.alloc_heap_new W3 (.cells #[.string (str (numStr num))] 9)
   have hwl : w.heap.size ≤ (W3.alloc (.cells #[.string (str (numStr num))] 9)).heap.size := hx4.below.size
   obtain ⟨g, hg⟩ : ∃ g, W3.heap.size = g := ⟨_, rfl⟩
   rw [hg] at hG ⊢
   refine hK.out _ _ (.inr (cell_of_row _ y4 0 _ _ _ hx4.b4)) ?_
   clear hK hx3
   generalize W3.alloc (.cells #[.string (str (numStr num))] 9) = W4 at hx4 hG hwl ⊢
   refine wpAnyZ_oneG (i := 5) (by kernel_rfl) rfl (by rfl) (fun K hK => ?_)
   refine wp_pushG (.tmp 61) (.tmp 64) 85 9 rfl (.string ⟨#[]⟩) 16 Tryz.underlying85 (by kernel_rfl) (by rfl) (show 0 < 1 by decide) w.heap.size w.heap.size g (keep_str _ _) _ ((nums.take i).map numStr) (numStr num) _ rfl hx4.row rfl hG ⟨rfl, trivial⟩ (by rw [hlu]; unfold maxLen; omega) (by rw [hlu]; omega) (Nat.le_refl _) hwl ?_
   intro v' W5 hr5 hb5 hg5 hk5
   have b45 := hk5 _ (by decide) _ _ hx4.b4
   have b25 := hk5 _ (by decide) _ _ hx4.b2
   rw [← HTK.out] at hr5
   refine hK.out _ _ (.inr (cell_of_row _ y4 0 _ _ _ b45)) ?_
   clear hK
   have hx5 : OpN w y2 y4 nums.length (W5.setCell ⟨y4, 0, none⟩ v') v' ((nums.take (i + 1)).map numStr) := by
    have hkk : ∀ u, u ≠ 172 → KeepTy u W5 (W5.setCell ⟨y4, 0, none⟩ v') := fun u hu => KeepTy.setCell (p := ⟨y4, 0, none⟩) (NotTy.of b45 (Ne.symm hu)) _
    have hne : y4 ≠ y2 := by omega
    have hwy : w.heap.size ≤ y4 := by omega
    refine ⟨(hx4.below.trans hb5).setCell (p := ⟨y4, 0, none⟩) hwy _, block_other (p := ⟨y4, 0, none⟩) b25 hne _, ?_, hr5.same (fun _ _ h => h) (hkk _ (by decide))⟩
    exact set_block b45
   have HX5 := Lib.hid hx5
   obtain ⟨va, vc, rfl⟩ := hr5.form
   have hlu2 : ((nums.take (i + 1)).map numStr).length = i + 1 := by simp; omega
   rw [hlu2] at HX5 ⊢
   have c40 := cell_of_row _ y4 0 _ _ _ b45
   have f40 := frozen_of_row _ y4 0 _ _ b45
   clear hx4 hG hwl hr5 hb5 hg5 hk5 b45 b25 hx5 HSN
   refine wpAnyZ_oneG (i := 6) (by kernel_rfl) rfl (by rfl) (fun K hK => ?_)
   go_simp
   refine hK.out _ _ (.inr c40) ?_
   clear hK
   refine wpAnyZ_oneG (i := 7) (by kernel_rfl) rfl (by rfl) (fun K hK => ?_)
   go_simp
   refine hK.out _ _ (.inl (by omega)) ?_
   clear hK c40 f40
   refine wpAnyZ_done (by kernel_rfl) ?_ _
   go_wp2_with fail
   go_roundw
   case rel => exact ⟨i + 1, _, by go_num, by omega, HX5.out⟩
   case measure => simp [Lib.intOf]; omega
  ·obtain rfl : i = nums.length := by omega
   rw [List.take_length] at hx
   have HX := Lib.hid hx
   have q : decide ((nums.length : Int) < (nums.length : Int)) = false := decide_eq_false (by omega)
   clear hx
   obtain ⟨ua, uc, rfl⟩ := HX.out.row.form
   have k0 := cell_of_row _ y4 0 _ _ _ HX.out.b4
   have k1 := cell_of_row _ y4 1 _ _ _ HX.out.b4
   have k2 := cell_of_row _ y4 2 _ _ _ HX.out.b4
   have k3 := cell_of_row _ y4 3 _ _ _ HX.out.b4
   have l0 := cell_of_row _ y2 0 _ _ _ HX.out.b2
   have l1 := cell_of_row _ y2 1 _ _ _ HX.out.b2
   have l2 := cell_of_row _ y2 2 _ _ _ HX.out.b2
   have l3 := cell_of_row _ y2 3 _ _ _ HX.out.b2
   have f0 := frozen_of_row _ y2 0 _ _ HX.out.b2
   have f1 := frozen_of_row _ y2 1 _ _ HX.out.b2
   have f2 := frozen_of_row _ y2 2 _ _ HX.out.b2
   have f3 := frozen_of_row _ y2 3 _ _ HX.out.b2
   have hlm : (nums.map numStr).length = nums.length := by simp
   rw [hlm] at HX k0
   go_wp2_with fail
   have r0 := set_block (k := 0) (v := .slice ua nums.length uc) HX.out.b2
   have r1 := set_block (k := 1) (v := .int .i64 0) r0
   have r2 := set_block (k := 2) (v := .int .i64 nums.length) r1
   have r3 := set_block (k := 3) (v := .bool true) r2
   have kall : ∀ u, u ≠ 172 → KeepTy u wr ((((wr.setCell ⟨y2, 0, none⟩ (.slice ua nums.length uc)).setCell ⟨y2, 1, none⟩ (.int .i64 0)).setCell ⟨y2, 2, none⟩ (.int .i64 nums.length)).setCell ⟨y2, 3, none⟩ (.bool true)) := fun u hu =>
    (((KeepTy.setCell (p := ⟨y2, 0, none⟩) (NotTy.of HX.out.b2 (Ne.symm hu)) _).trans (KeepTy.setCell (p := ⟨y2, 1, none⟩) (NotTy.of r0 (Ne.symm hu)) _)).trans (KeepTy.setCell (p := ⟨y2, 2, none⟩) (NotTy.of r1 (Ne.symm hu)) _)).trans (KeepTy.setCell (p := ⟨y2, 3, none⟩) (NotTy.of r2 (Ne.symm hu)) _)
   have hwy : w.heap.size ≤ y2 := by omega
   have hb := (((HX.out.below.setCell (p := ⟨y2, 0, none⟩) hwy (.slice ua nums.length uc)).setCell (p := ⟨y2, 1, none⟩) hwy (.int .i64 0)).setCell (p := ⟨y2, 2, none⟩) hwy (.int .i64 nums.length)).setCell (p := ⟨y2, 3, none⟩) hwy (.bool true)
   have hr3 := own_keep HX.out.row.words (kall _ (by decide))
   obtain ⟨g, cap, e, hgM⟩ := words_val hr3 (by simpa using h0)
   rw [hlm] at e
   rw [e] at hr3 hb r3 ⊢
   have hr4 : (((((wr.setCell ⟨y2, 0, none⟩ (.slice (some ⟨g, 0, none⟩) nums.length cap)).setCell ⟨y2, 1, none⟩ (.int .i64 0)).setCell ⟨y2, 2, none⟩ (.int .i64 nums.length)).setCell ⟨y2, 3, none⟩ (.bool true))).heap[y2]? = some (.cells #[.slice (some ⟨g, 0, none⟩) nums.length cap, .int .i64 0, .int .i64 nums.length, .bool true] 172 (0, 0)) := r3
   refine bodyPost_ret (results_oper rfl _ _ rfl hr4 (by kernel_rfl) rfl) rfl ⟨⟨⟨nums.map numStr, 0, nums.length, true⟩, g, cap⟩, rfl, ?_, ⟨?_, by simpa using h0⟩, hb⟩
   ·unfold PG.cells PG.val
    dsimp only
    rw [hlm]
    rfl
   ·unfold PG.val
    dsimp only
    rw [hlm] at hr3 ⊢
    exact hr3
end Go.Proofs.YtokghjnkfabgiaaGreatDoor

namespace Go.Proofs.YtokghjnkfabgiaaGreatDoor
open Go.RowKit Go.Lib
attribute [local go_sem] str_size str_get str_toList

theorem brack_set {ws : List Str} {s0 s1 : Str} (h0 : ws[0]? = some s0) (h1 : (ws.set 0 (40 :: s0))[ws.length - 1]? = some s1) : brackW ws = (ws.set 0 (40 :: s0)).set (ws.length - 1) (s1 ++ [41]) := by
 cases ws with
 | nil => cases h0
 | cons w r =>
  have e0 : w = s0 := Option.some.inj h0
  subst e0
  rcases snoc_cases r with rfl | ⟨q, z, rfl⟩
  ·simp at h1
   subst h1
   rfl
  ·rw [brack_more]
   have e : (w :: (q ++ [z])).length - 1 = q.length + 1 := by simp
   rw [e] at h1 ⊢
   have h2 : (q ++ [z])[q.length]? = some s1 := h1
   rw [List.getElem?_append_right (Nat.le_refl _), Nat.sub_self] at h2
   have e2 : z = s1 := Option.some.inj h2
   subst e2
   show _ = (40 :: w) :: (q ++ [z]).set q.length (z ++ [41])
   rw [List.set_append_right _ _ (Nat.le_refl _), Nat.sub_self]
   rfl
def szW (ws : List Str) : Nat := (ws.map fun s => s.length + 1).sum
def szH (h : List Pc) : Nat := (h.map fun p => szW p.words).sum
theorem szW_app (a b : List Str) : szW (a ++ b) = szW a + szW b := by simp [szW]
theorem szW_len (ws : List Str) : ws.length ≤ szW ws := by
 induction ws with
 | nil => exact Nat.le_refl _
 | cons w r ih => simp [szW] at ih ⊢; omega
theorem szW_mem {ws : List Str} {s : Str} (h : s ∈ ws) : s.length + 1 ≤ szW ws := by
 induction ws with
 | nil => cases h
 | cons w r ih =>
  rcases List.mem_cons.1 h with rfl | h
  ·simp [szW]
  ·have := ih h; simp [szW] at this ⊢; omega
theorem szW_brack {ws : List Str} (h : ws ≠ []) : szW (brackW ws) = szW ws + 2 := by
 cases ws with
 | nil => exact absurd rfl h
 | cons w r =>
  rcases snoc_cases r with rfl | ⟨q, z, rfl⟩
  ·rw [brack_one]; simp [szW]
  ·rw [brack_more]; simp [szW]; omega
theorem numStr_len {n : Int} (h : in64B n = true) : (numStr n).length ≤ 24 := (spell_facts (right_num h)).1
theorem name_len {s : Str} (h : nameW s = true) : s.length ≤ 24 := (spell_facts (RR.name s h)).1
theorem szW_nums : ∀ (l : List Int), (∀ n ∈ l, in64B n = true) → szW (l.map numStr) ≤ l.length * 25
 | [], _ => Nat.le_refl _
 | n :: l, h => by
  have h1 := numStr_len (h n List.mem_cons_self)
  have h2 := szW_nums l fun x hx => h x (List.mem_cons_of_mem _ hx)
  simp [szW] at h2 ⊢
  omega
theorem words16 (k : Int) : (wtwoW k).length ≤ 16 ∧ (woneW k).length ≤ 16 ∧ (wtwoW k ≠ [] → (Lit.int .u8 k).wf = true) ∧ (woneW k ≠ [] → (Lit.int .u8 k).wf = true) := by
 refine ⟨?_, ?_, ?_, ?_⟩
 ·unfold wtwoW
  split
  ·simp
  ·split
   ·rename_i x hx
    exact (words_own _ (List.mem_of_find?_eq_some hx)).2.2.2.2
   ·simp
 ·unfold woneW
  split
  ·simp
  ·split
   ·rename_i x hx
    exact (words_own _ (List.mem_of_find?_eq_some hx)).2.2.2.2
   ·simp
 ·unfold wtwoW
  split
  ·intro h; exact absurd rfl h
  ·split
   ·rename_i x hx
    intro _
    have h1 := (words_own _ (List.mem_of_find?_eq_some hx)).2.2.1
    have h2 : x.2.1 = k := by simpa using List.find?_some hx
    rw [← h2]; exact h1
   ·intro h; exact absurd rfl h
 ·unfold woneW
  split
  ·intro h; exact absurd rfl h
  ·split
   ·rename_i x hx
    intro _
    have h1 := (words_own _ (List.mem_of_find?_eq_some hx)).2.2.2.1
    have h2 : x.2.2 = k := by simpa using List.find?_some hx
    rw [← h2]; exact h1
   ·intro h; exact absurd rfl h
theorem vstr_len (i : Itm) : (vstrS LL i).1.length ≤ 17 ∧ (vstrS LL i).2 ≤ 2 ∧ ((vstrS LL i).1 ≠ [] → (Lit.int .u8 i.fn).wf = true) := by
 obtain ⟨h1, h2, h3, h4⟩ := words16 i.fn
 have e1 : LL.wone i.fn = woneW i.fn := rfl
 have e2 : LL.wtwo i.fn = wtwoW i.fn := rfl
 unfold vstrS
 rw [e1, e2]
 split
 ·exact ⟨by show (woneW i.fn).length ≤ 17; omega, by show 1 ≤ 2; omega, h4⟩
 ·split
  ·exact ⟨by show (wtwoW i.fn).length ≤ 17; omega, by show 1 ≤ 2; omega, h3⟩
  ·rename_i hne
   split
   ·exact ⟨by simp, by show 0 ≤ 2; omega, fun h => absurd rfl h⟩
   ·refine ⟨?_, Nat.le_refl _, fun _ => h3 fun e => hne (.inl e)⟩
    simp only [List.length_append]
    have : (if i.how = 5 then [47] else if i.how = 6 then [92] else [46] : Str).length ≤ 1 := by
     split
     ·simp
     ·split <;> simp
    omega
inductive StepC (h : List Pc) (i : Itm) (h' : List Pc) : Prop
 | name (e : i.how = 2) (hf : i.fn = 0) (hn : i.nums = []) (hv : nameW i.name = true) (r : h' = ⟨[i.name], 0, 1, true⟩ :: h)
 | num (e : i.how = 1) (hf : i.fn = 0) (hn : i.name = []) (h0 : i.nums ≠ []) (hl : i.nums.length ≤ 256) (r : h' = ⟨i.nums.map numStr, 0, i.nums.length, true⟩ :: h)
 | mon (p : Pc) (q : List Pc) (e : i.how = 3 ∨ i.how = 5 ∨ i.how = 6) (hn : i.nums = []) (hm : i.name = []) (hv : (vstrS LL i).1 ≠ []) (hh : h = p :: q) (r : h' = ⟨(vstrS LL i).1 :: p.words, p.nest, p.tokens + (vstrS LL i).2, false⟩ :: q)
 | dy (p l : Pc) (q : List Pc) (e : i.how = 4 ∨ i.how = 7) (hn : i.nums = []) (hm : i.name = []) (hv : (vstrS LL i).1 ≠ []) (hh : h = p :: l :: q) (r : h' = ⟨(if l.plain then l.words else brackW l.words) ++ ((vstrS LL i).1 :: p.words), max p.nest (if l.plain then l.nest else l.nest + 1), p.tokens + (vstrS LL i).2 + (if l.plain then l.tokens else l.tokens + 2), false⟩ :: q)
theorem step_cases {h h' : List Pc} {i : Itm} (hs : showStep LL h i = some h') : StepC h i h' := by
 unfold showStep at hs
 by_cases h2 : i.how = 2
 ·rw [if_pos h2] at hs
  by_cases hc : i.fn = 0 ∧ i.nums = [] ∧ LL.V.name i.name = true
  ·rw [if_pos hc] at hs; exact .name h2 hc.1 hc.2.1 hc.2.2 (Option.some.inj hs).symm
  ·rw [if_neg hc] at hs; cases hs
 rw [if_neg h2] at hs
 by_cases h1 : i.how = 1
 ·rw [if_pos h1] at hs
  by_cases hc : i.fn = 0 ∧ i.name = [] ∧ i.nums ≠ [] ∧ i.nums.length ≤ 256
  ·rw [if_pos hc] at hs; exact .num h1 hc.1 hc.2.1 hc.2.2.1 hc.2.2.2 (Option.some.inj hs).symm
  ·rw [if_neg hc] at hs; cases hs
 rw [if_neg h1] at hs
 by_cases hb : i.how < 3 ∨ 7 < i.how ∨ i.nums ≠ [] ∨ i.name ≠ []
 ·rw [if_pos hb] at hs; cases hs
 rw [if_neg hb] at hs
 have hb1 : ¬ i.how < 3 := fun h => hb (.inl h)
 have hb2 : ¬ 7 < i.how := fun h => hb (.inr (.inl h))
 have hb3 : i.nums = [] := Classical.byContradiction fun h => hb (.inr (.inr (.inl h)))
 have hb4 : i.name = [] := Classical.byContradiction fun h => hb (.inr (.inr (.inr h)))
 by_cases hv : (vstrS LL i).1 = []
 ·rw [if_pos hv] at hs; cases hs
 rw [if_neg hv] at hs
 by_cases h4 : i.how = 4 ∨ i.how = 7
 ·rw [if_pos h4] at hs
  cases h with
  | nil => cases hs
  | cons p r =>
   cases r with
   | nil => cases hs
   | cons l r => exact .dy p l r h4 hb3 hb4 hv rfl (Option.some.inj hs).symm
 ·rw [if_neg h4] at hs
  cases h with
  | nil => cases hs
  | cons p r =>
   refine .mon p r ?_ hb3 hb4 hv rfl (Option.some.inj hs).symm
   have : i.how ≠ 4 := fun e => h4 (.inl e)
   have : i.how ≠ 7 := fun e => h4 (.inr e)
   omega
theorem step_size {h h' : List Pc} {i : Itm} (hs : showStep LL h i = some h') (hw : ∀ p ∈ h, p.words ≠ []) (h64 : ∀ n ∈ i.nums, in64B n = true) : szH h' ≤ szH h + 6420 ∧ (∀ p ∈ h', p.words ≠ []) ∧ h'.length ≤ h.length + 1 := by
 cases step_cases hs with
 | name e hf hn hv r =>
  subst r
  have := name_len hv
  refine ⟨?_, fun p hp => ?_, by simp⟩
  ·simp [szH, szW]; omega
  ·rcases List.mem_cons.1 hp with rfl | hp
   ·simp
   ·exact hw p hp
 | num e hf hn h0 hl r =>
  subst r
  have := szW_nums _ h64
  have h3 : i.nums.length * 25 ≤ 256 * 25 := Nat.mul_le_mul_right _ hl
  refine ⟨?_, fun p hp => ?_, by simp⟩
  ·simp only [szH, List.map_cons, List.sum_cons]; omega
  ·rcases List.mem_cons.1 hp with rfl | hp
   ·simpa using h0
   ·exact hw p hp
 | mon p q e hn hm hv hh r =>
  subst hh r
  have := (vstr_len i).1
  refine ⟨?_, fun p hp => ?_, by simp⟩
  ·simp only [szH, List.map_cons, List.sum_cons, szW]; omega
  ·rcases List.mem_cons.1 hp with rfl | hp
   ·simp
   ·exact hw p (List.mem_cons_of_mem _ hp)
 | dy p l q e hn hm hv hh r =>
  subst hh r
  have := (vstr_len i).1
  have hlw := hw l (by simp)
  have hb : szW (if l.plain then l.words else brackW l.words) ≤ szW l.words + 2 := by
   split
   ·omega
   ·rw [szW_brack hlw]; omega
  refine ⟨?_, fun p hp => ?_, by simp⟩
  ·have e1 : ∀ (a : Str) (r : List Str), szW (a :: r) = a.length + 1 + szW r := fun a r => by simp [szW]
   simp only [szH, List.map_cons, List.sum_cons, szW_app, e1]; omega
  ·rcases List.mem_cons.1 hp with rfl | hp
   ·simp
   ·exact hw p (by simp [hp])
def tkH (h : List Pc) : Nat := (h.map (·.tokens)).sum
def nsH (h : List Pc) : Nat := (h.map (·.nest)).sum
theorem step_toks {h h' : List Pc} {i : Itm} (hs : showStep LL h i = some h') : tkH h' ≤ tkH h + 256 ∧ nsH h' ≤ nsH h + 1 := by
 cases step_cases hs with
 | name e hf hn hv r => subst r; simp [tkH, nsH]; omega
 | num e hf hn h0 hl r => subst r; simp [tkH, nsH]; omega
 | mon p q e hn hm hv hh r =>
  subst hh r
  have := (vstr_len i).2.1
  simp [tkH, nsH]; omega
 | dy p l q e hn hm hv hh r =>
  subst hh r
  have := (vstr_len i).2.1
  simp only [tkH, nsH, List.map_cons, List.sum_cons]
  constructor
  ·split <;> omega
  ·have : (if l.plain = true then l.nest else l.nest + 1) ≤ l.nest + 1 := by split <;> omega
   have : max p.nest (if l.plain = true then l.nest else l.nest + 1) ≤ p.nest + (l.nest + 1) := by omega
   omega
end Go.Proofs.YtokghjnkfabgiaaGreatDoor

namespace Go.Proofs.YtokghjnkfabgiaaGreatDoor
open Go.RowKit Go.Lib
attribute [local go_sem] str_size str_get str_toList

def pgR : Rep PG := Rep.flat 4 PG.cells (fun _ => True) (fun _ => rfl) (by
 intro x v hv
 simp only [PG.cells, List.mem_cons, List.not_mem_nil, or_false] at hv
 rcases hv with rfl | rfl | rfl | rfl <;> rfl)
theorem keep_pg (B : Nat) (t : TypeId) : KeepR pgR B t := fun _ _ _ _ _ _ h => h
theorem Rep.Cs.split {α : Type} {R : Rep α} {w : World} {ys : List α} : ∀ {xs : List α} {cs : List Value}, R.Cs w cs (xs ++ ys) → ∃ c1 c2, cs = c1 ++ c2 ∧ R.Cs w c1 xs ∧ R.Cs w c2 ys
 | [], cs, h => ⟨[], cs, rfl, rfl, h⟩
 | x :: xs, cs, ⟨ds, r, e, h1, h2⟩ => by
  obtain ⟨c1, c2, e2, h3, h4⟩ := Rep.Cs.split h2
  exact ⟨ds ++ c1, c2, by rw [e, e2, List.append_assoc], ⟨ds, c1, rfl, h1, h3⟩, h4⟩
theorem RowG.front {α : Type} {R : Rep α} {M : Nat} {t : TypeId} {w : World} {a : Option Addr} {n c : Nat} {xs ys : List α} (h : RowG R M t w (.slice a n c) (xs ++ ys)) (hx : ys ≠ []) : RowG R M t w (.slice a xs.length c) xs := by
 obtain ⟨cs, ⟨hl, hr⟩, h2⟩ := h
 obtain ⟨c1, c2, rfl, h3, h4⟩ := Rep.Cs.split h2
 have l1 := Rep.Cs.len h3
 refine ⟨c1, ⟨l1, ?_⟩, h3⟩
 rcases hr with ⟨_, h0⟩ | ⟨g, cap, cur, e, hg, hh, hnc, hcm, hcs, htk⟩
 ·exfalso
  cases ys with
  | nil => exact hx rfl
  | cons y r => simp at h0
 ·cases e
  refine .inr ⟨g, _, cur, rfl, hg, hh, by simp at hnc; omega, hcm, hcs, ?_⟩
  have := congrArg (List.take (xs.length * R.n)) htk
  rw [List.take_take, List.take_append_of_le_length (by omega), List.take_of_length_le (l := c1) (by omega)] at this
  rw [← this, Nat.min_eq_left]
  simp only [List.length_append, Nat.add_mul]
  omega
theorem rowg_lt {α : Type} {R : Rep α} {M : Nat} {t : TypeId} {w : World} {v : Value} {xs : List α} (h : RowG R M t w v xs) {g : Nat} (e : v.ownBlock = some g) : M ≤ g ∧ g < w.heap.size := by
 obtain ⟨cs, h1, _⟩ := h
 exact World.ownsRow.lt h1 g e
theorem Rep.Cs.keepR {α : Type} {R : Rep α} {w w' : World} (hR : ∀ cs x, R.At w cs x → R.At w' cs x) : ∀ {xs : List α} {cs : List Value}, R.Cs w cs xs → R.Cs w' cs xs
 | [], cs, h => h
 | x :: xs, cs, ⟨ds, r, e, h3, h4⟩ => ⟨ds, r, e, hR _ _ h3, Rep.Cs.keepR hR h4⟩
def OwnL (W : World) (M : Nat) (xs : List PG) : Prop := (∀ x ∈ xs, x.Own W M) ∧ xs.Pairwise fun x y => x.g ≠ y.g
section
variable {W W' : World} {M : Nat} {xs ys : List PG} {x y : PG}
theorem PG.Own.block (h : x.Own W M) : ∃ cur, W.heap[x.g]? = some (.cells cur 9 (0, 0)) ∧ M ≤ x.g ∧ x.p.words.length ≤ x.cap ∧ x.cap ≤ maxLen ∧ cur.size = x.cap ∧ cur.toList.take x.p.words.length = wcells x.p.words := by
 obtain ⟨⟨h1, ⟨e, _⟩ | ⟨g, cap, cur, e, hg, hh, hnc, hcm, hcs, htk⟩⟩, _⟩ := h
 ·cases e
 ·cases e
  exact ⟨cur, hh, hg, hnc, hcm, by simpa using hcs, by simpa using htk⟩
theorem PG.Own.lt (h : x.Own W M) : x.g < W.heap.size := by
 obtain ⟨cur, hh, _⟩ := h.block
 exact block_lt hh
theorem PG.Own.cell (h : x.Own W M) {k : Nat} {s : Str} (hk : x.p.words[k]? = some s) : W.cell? ⟨x.g, k, none⟩ = some (.string (str s)) ∧ W.frozen? ⟨x.g, k, none⟩ = false := by
 obtain ⟨cur, hh, _, _, _, _, htk⟩ := h.block
 refine ⟨?_, frozen_of_row _ _ _ _ _ hh⟩
 rw [cell_of_row _ _ _ _ _ _ hh]
 have hlt := (List.getElem?_eq_some_iff.1 hk).1
 have e : (cur.toList.take x.p.words.length)[k]? = some (.string (str s)) := by rw [htk]; simp [wcells, hk]
 rw [List.getElem?_take_of_lt hlt] at e
 simpa using e
theorem PG.Own.keep (h : x.Own W M) (hk : KeepTy 9 W W') : x.Own W' M := ⟨own_keep h.1 hk, h.2⟩
theorem PG.Own.grown {row : Option Nat} (h : x.Own W M) (hg : W.grownBy W' row) (hr : row ≠ some x.g) : x.Own W' M := ⟨World.ownsRow.kept h.1 hg (.inr (fun e => hr e.symm)), h.2⟩
theorem PG.Own.src (h : x.Own W M) : Src W x.val x.p.words.length (wcells x.p.words) := ownsRow_src h.1
theorem PG.Own.set (h : x.Own W M) {k : Nat} (hk : k < x.p.words.length) (s : Str) (p' : Pc) (hp : p'.words = x.p.words.set k s) : PG.Own ⟨p', x.g, x.cap⟩ (W.setCell ⟨x.g, k, none⟩ (.string (str s))) M := by
 obtain ⟨cur, hh, hg, hnc, hcm, hcs, htk⟩ := h.block
 have hl : p'.words.length = x.p.words.length := by rw [hp]; simp
 have hne : p'.words ≠ [] := fun e => by rw [e] at hl; simp at hl; omega
 refine ⟨⟨by simp [wcells], .inr ⟨x.g, x.cap, _, by unfold PG.val; rfl, hg, set_block hh, by dsimp only; omega, hcm, by simpa using hcs, ?_⟩⟩, hne⟩
 dsimp only
 rw [Nat.mul_one, hl, hp, Array.toList_setIfInBounds, List.take_set, htk]
 simp [wcells]
theorem OwnL.keep (h : OwnL W M xs) (hk : KeepTy 9 W W') : OwnL W' M xs := ⟨fun x hx => (h.1 x hx).keep hk, h.2⟩
theorem OwnL.next (h : OwnL W M xs) (hb : Below W.heap.size W W') : OwnL W' M xs := h.keep (KeepTy.below hb)
theorem OwnL.grown {row : Option Nat} (h : OwnL W M xs) (hg : W.grownBy W' row) (hr : ∀ x ∈ xs, row ≠ some x.g) : OwnL W' M xs := ⟨fun x hx => (h.1 x hx).grown hg (hr x hx), h.2⟩
theorem OwnL.front (h : OwnL W M (xs ++ ys)) : OwnL W M xs := ⟨fun x hx => h.1 x (List.mem_append_left _ hx), (List.pairwise_append.1 h.2).1⟩
theorem OwnL.push (h : OwnL W M xs) (hx : x.Own W M) (hn : ∀ y ∈ xs, y.g ≠ x.g) : OwnL W M (xs ++ [x]) := by
 refine ⟨fun y hy => ?_, List.pairwise_append.2 ⟨h.2, List.pairwise_singleton _ _, fun a ha b hb => ?_⟩⟩
 ·rcases List.mem_append.1 hy with hy | hy
  ·exact h.1 y hy
  ·rw [List.mem_singleton.1 hy]; exact hx
 ·rw [List.mem_singleton.1 hb]; exact hn a ha
theorem OwnL.last (h : OwnL W M (xs ++ [x])) : x.Own W M ∧ ∀ y ∈ xs, y.g ≠ x.g := ⟨h.1 x (by simp), fun y hy => (List.pairwise_append.1 h.2).2.2 y hy x (by simp)⟩
theorem OwnL.nil : OwnL W M [] := ⟨fun x h => (by cases h), List.Pairwise.nil⟩
theorem OwnL.lt (h : OwnL W M xs) : ∀ y ∈ xs, y.g < W.heap.size := fun y hy => (h.1 y hy).lt
end
section
variable {W W' : World} {M : Nat} {xs ys : List PG} {x y : PG}
theorem set_grown {W : World} {g k : Nat} {v : Value} : W.grownBy (W.setCell ⟨g, k, none⟩ v) (some g) := ⟨rfl, rfl, rfl, by simp [World.setCell], fun j _ hj => Below.heap_setCell _ _ _ _ (fun e => hj (by rw [e]))⟩
theorem OwnL.setLast {l : PG} (h : OwnL W M (xs ++ [l])) {k : Nat} (hk : k < l.p.words.length) (s : Str) (p' : Pc) (hp : p'.words = l.p.words.set k s) : OwnL (W.setCell ⟨l.g, k, none⟩ (.string (str s))) M (xs ++ [⟨p', l.g, l.cap⟩]) := by
 obtain ⟨h1, h2⟩ := h.last
 exact (h.front.grown set_grown (fun x hx e => h2 x hx (Option.some.inj e).symm)).push (h1.set hk s p' hp) h2
theorem OwnL.sameWords {l l' : PG} (h : OwnL W M (xs ++ [l])) (hp : l'.p.words = l.p.words) (hg : l'.g = l.g) (hc : l'.cap = l.cap) : OwnL W M (xs ++ [l']) := by
 obtain ⟨h1, h2⟩ := h.last
 refine h.front.push ?_ (fun y hy => by rw [hg]; exact h2 y hy)
 obtain ⟨px, gx, cx⟩ := l
 obtain ⟨py, gy, cy⟩ := l'
 dsimp only at hp hg hc
 subst hg hc
 obtain ⟨h3, h4⟩ := h1
 dsimp only [PG.val] at h3 h4
 refine ⟨?_, by dsimp only; rw [hp]; exact h4⟩
 dsimp only [PG.val]
 rw [hp]
 exact h3
end
structure LS (w : World) (hv : Value) (qs tl : List PG) (y16 y17 : Nat) (z l : PG) (W : World) : Prop where
 below : Below w.heap.size w W
 row : RowG pgR w.heap.size 172 W hv (qs ++ tl)
 own : OwnL W w.heap.size (qs ++ [l])
 zown : z.Own W w.heap.size
 apart : ∀ q ∈ qs ++ [l], q.g ≠ z.g
 b16 : W.heap[y16]? = some (.cells #[.slice (some ⟨z.g, 0, none⟩) z.p.words.length z.cap, .int .i64 z.p.nest, .int .i64 z.p.tokens, .bool z.p.plain] 172 (0, 0))
 b17 : W.heap[y17]? = some (.cells #[.slice (some ⟨l.g, 0, none⟩) l.p.words.length l.cap, .int .i64 l.p.nest, .int .i64 l.p.tokens, .bool l.p.plain] 172 (0, 0))
 ne : y16 ≠ y17
 hv16 : hv.ownBlock ≠ some y16
 hv17 : hv.ownBlock ≠ some y17
 m16 : w.heap.size ≤ y16
 m17 : w.heap.size ≤ y17
section
variable {w W W' : World} {hv : Value} {qs tl : List PG} {y16 y17 : Nat} {z l : PG}
theorem LS.next (h : LS w hv qs tl y16 y17 z l W) (hb : Below W.heap.size W W') : LS w hv qs tl y16 y17 z l W' :=
 ⟨h.below.trans (hb.mono h.below.size), h.row.next hb, h.own.next hb, h.zown.keep (KeepTy.below hb), h.apart, block_below h.b16 hb, block_below h.b17 hb, h.ne, h.hv16, h.hv17, h.m16, h.m17⟩
theorem LS.lown (h : LS w hv qs tl y16 y17 z l W) : l.Own W w.heap.size := h.own.last.1
theorem LS.setW (h : LS w hv qs tl y16 y17 z l W) {k : Nat} (hk : k < l.p.words.length) (s : Str) (p' : Pc) (hp : p'.words = l.p.words.set k s) (hn : p'.nest = l.p.nest) (ht : p'.tokens = l.p.tokens) (hq : p'.plain = l.p.plain) :
  LS w hv qs tl y16 y17 z ⟨p', l.g, l.cap⟩ (W.setCell ⟨l.g, k, none⟩ (.string (str s))) := by
 obtain ⟨cur, hh, hM, -⟩ := h.lown.block
 have hkk : ∀ u, u ≠ 9 → KeepTy u W (W.setCell ⟨l.g, k, none⟩ (.string (str s))) := fun u hu => KeepTy.setCell (p := ⟨l.g, k, none⟩) (NotTy.of hh (Ne.symm hu)) _
 have hzg : l.g ≠ z.g := h.apart l (by simp)
 have hl : p'.words.length = l.p.words.length := by rw [hp]; simp
 refine ⟨h.below.setCell (p := ⟨l.g, k, none⟩) hM _, h.row.same (fun _ _ h => h) (hkk _ (by decide)), h.own.setLast hk s p' hp, h.zown.grown set_grown (fun e => hzg (Option.some.inj e)), ?_, hkk _ (by decide) _ _ h.b16, ?_, h.ne, h.hv16, h.hv17, h.m16, h.m17⟩
 ·intro q hq
  rcases List.mem_append.1 hq with hq | hq
  ·exact h.apart q (List.mem_append_left _ hq)
  ·rw [List.mem_singleton.1 hq]; exact hzg
 ·have := hkk _ (by decide) _ _ h.b17
  dsimp only
  rw [hl, hn, ht, hq]
  exact this
theorem LS.setN (h : LS w hv qs tl y16 y17 z l W) (p' : Pc) (hp : p'.words = l.p.words) (hq : p'.plain = l.p.plain) :
  LS w hv qs tl y16 y17 z ⟨p', l.g, l.cap⟩ ((W.setCell ⟨y17, 1, none⟩ (.int .i64 p'.nest)).setCell ⟨y17, 2, none⟩ (.int .i64 p'.tokens)) := by
 have g1 : W.grownBy (W.setCell ⟨y17, 1, none⟩ (.int .i64 p'.nest)) (some y17) := set_grown
 have b1 := set_block (k := 1) (v := .int .i64 p'.nest) h.b17
 have g2 : (W.setCell ⟨y17, 1, none⟩ (.int .i64 p'.nest)).grownBy ((W.setCell ⟨y17, 1, none⟩ (.int .i64 p'.nest)).setCell ⟨y17, 2, none⟩ (.int .i64 p'.tokens)) (some y17) := set_grown
 have b2 := set_block (k := 2) (v := .int .i64 p'.tokens) b1
 have k1 : KeepTy 9 W ((W.setCell ⟨y17, 1, none⟩ (.int .i64 p'.nest)).setCell ⟨y17, 2, none⟩ (.int .i64 p'.tokens)) := (KeepTy.setCell (p := ⟨y17, 1, none⟩) (NotTy.of h.b17 (by decide)) _).trans (KeepTy.setCell (p := ⟨y17, 2, none⟩) (NotTy.of b1 (by decide)) _)
 obtain ⟨cs, r1, r2⟩ := h.row
 refine ⟨(h.below.setCell (p := ⟨y17, 1, none⟩) h.m17 _).setCell (p := ⟨y17, 2, none⟩) h.m17 _, ⟨cs, World.ownsRow.kept (World.ownsRow.kept r1 g1 (.inr h.hv17)) g2 (.inr h.hv17), Rep.Cs.keepR (R := pgR) (w := W) (w' := (W.setCell ⟨y17, 1, none⟩ (.int .i64 p'.nest)).setCell ⟨y17, 2, none⟩ (.int .i64 p'.tokens)) (fun _ _ h => h) r2⟩, (h.own.keep k1).sameWords hp rfl rfl, h.zown.keep k1, ?_, ?_, ?_, h.ne, h.hv16, h.hv17, h.m16, h.m17⟩
 ·intro q hq
  rcases List.mem_append.1 hq with hq | hq
  ·exact h.apart q (List.mem_append_left _ hq)
  ·rw [List.mem_singleton.1 hq]; exact h.apart l (by simp)
 ·exact block_other (p := ⟨y17, 2, none⟩) (block_other (p := ⟨y17, 1, none⟩) h.b16 (Ne.symm h.ne) _) (Ne.symm h.ne) _
 ·dsimp only
  rw [hp, hq]
  exact b2
end
structure TI (w : World) (hv : Value) (qs tl : List PG) (y16 : Nat) (z : PG) (W : World) : Prop where
 below : Below w.heap.size w W
 row : RowG pgR w.heap.size 172 W hv (qs ++ tl)
 own : OwnL W w.heap.size qs
 zown : z.Own W w.heap.size
 apart : ∀ q ∈ qs, q.g ≠ z.g
 box : W.heap[y16]? = some (.cells #[.slice (some ⟨z.g, 0, none⟩) z.p.words.length z.cap, .int .i64 z.p.nest, .int .i64 z.p.tokens, .bool z.p.plain] 172 (0, 0))
theorem TI.next {w W W' : World} {hv : Value} {qs tl : List PG} {y16 : Nat} {z : PG} (h : TI w hv qs tl y16 z W) (hb : Below W.heap.size W W') : TI w hv qs tl y16 z W' :=
 ⟨h.below.trans (hb.mono h.below.size), h.row.next hb, h.own.next hb, h.zown.keep (KeepTy.below hb), h.apart, block_below h.box hb⟩
theorem LS.done {w W wz : World} {hv : Value} {qs tl : List PG} {y16 y17 : Nat} {z l : PG} {v' : Value} (h : LS w hv qs tl y16 y17 z l W) (hrz : wz.ownsRow w.heap.size 9 1 v' (l.p.words.length + z.p.words.length) (wcells l.p.words ++ wcells z.p.words)) (hgz : W.grownBy wz (some l.g)) (hnz : Newer W l.val v') (hzp : z.p.plain = false) :
  ∃ z', z'.p = ⟨l.p.words ++ z.p.words, max z.p.nest l.p.nest, z.p.tokens + l.p.tokens, false⟩ ∧ TI w hv qs tl y16 z' (((wz.setCell ⟨y16, 0, none⟩ v').setCell ⟨y16, 2, none⟩ (.int .i64 ((z.p.tokens : Int) + (l.p.tokens : Int)))).setCell ⟨y16, 1, none⟩ (.int .i64 (max (z.p.nest : Int) (l.p.nest : Int)))) := by
 have e : wcells l.p.words ++ wcells z.p.words = wcells (l.p.words ++ z.p.words) := by simp [wcells]
 have hl : l.p.words.length + z.p.words.length = (l.p.words ++ z.p.words).length := by simp
 rw [e, hl] at hrz
 have hne : l.p.words ++ z.p.words ≠ [] := by simp [h.lown.2]
 obtain ⟨g, cap, rfl, hg⟩ := words_val hrz hne
 obtain ⟨cur, hh, hM, -⟩ := h.lown.block
 have hkk : ∀ u, u ≠ 9 → KeepTy u W wz := fun u hu => KeepTy.grown hgz (fun g e => by cases e; exact NotTy.of hh (Ne.symm hu))
 have b0 := hkk _ (by decide) _ _ h.b16
 have b1 := set_block (k := 0) (v := .slice (some ⟨g, 0, none⟩) (l.p.words ++ z.p.words).length cap) b0
 have b2 := set_block (k := 2) (v := .int .i64 ((z.p.tokens : Int) + (l.p.tokens : Int))) b1
 have b3 := set_block (k := 1) (v := .int .i64 (max (z.p.nest : Int) (l.p.nest : Int))) b2
 have kst : KeepTy 9 wz (((wz.setCell ⟨y16, 0, none⟩ (.slice (some ⟨g, 0, none⟩) (l.p.words ++ z.p.words).length cap)).setCell ⟨y16, 2, none⟩ (.int .i64 ((z.p.tokens : Int) + (l.p.tokens : Int)))).setCell ⟨y16, 1, none⟩ (.int .i64 (max (z.p.nest : Int) (l.p.nest : Int)))) :=
  ((KeepTy.setCell (p := ⟨y16, 0, none⟩) (NotTy.of b0 (by decide)) _).trans (KeepTy.setCell (p := ⟨y16, 2, none⟩) (NotTy.of b1 (by decide)) _)).trans (KeepTy.setCell (p := ⟨y16, 1, none⟩) (NotTy.of b2 (by decide)) _)
 have hqg : ∀ q ∈ qs, q.g ≠ g := fun q hq => by
  have h1 := h.own.last.2 q hq
  have h2 := h.own.lt q (List.mem_append_left _ hq)
  rcases hnz with h | ⟨k, h, hk⟩
  ·have h' : g = l.g := Option.some.inj h
   omega
  ·have h' : g = k := Option.some.inj h
   omega
 have em : max (z.p.nest : Int) (l.p.nest : Int) = ((max z.p.nest l.p.nest : Nat) : Int) := by omega
 obtain ⟨cs, r1, r2⟩ := h.row.same (w' := wz) (fun _ _ h => h) (hkk _ (by decide))
 refine ⟨⟨⟨l.p.words ++ z.p.words, max z.p.nest l.p.nest, z.p.tokens + l.p.tokens, false⟩, g, cap⟩, rfl, ?_, ⟨cs, World.ownsRow.kept (World.ownsRow.kept (World.ownsRow.kept r1 set_grown (.inr h.hv16)) set_grown (.inr h.hv16)) set_grown (.inr h.hv16), Rep.Cs.keepR (R := pgR) (w := wz) (w' := (((wz.setCell ⟨y16, 0, none⟩ (.slice (some ⟨g, 0, none⟩) (l.p.words ++ z.p.words).length cap)).setCell ⟨y16, 2, none⟩ (.int .i64 ((z.p.tokens : Int) + (l.p.tokens : Int)))).setCell ⟨y16, 1, none⟩ (.int .i64 (max (z.p.nest : Int) (l.p.nest : Int))))) (fun _ _ h => h) r2⟩, ?_, ⟨own_keep hrz kst, hne⟩, hqg, ?_⟩
 ·exact (((h.below.grown hgz h.below.size (fun k hk => by cases hk; exact hM)).setCell (p := ⟨y16, 0, none⟩) h.m16 _).setCell (p := ⟨y16, 2, none⟩) h.m16 _).setCell (p := ⟨y16, 1, none⟩) h.m16 _
 ·exact (h.own.front.grown hgz (fun x hx e => h.own.last.2 x hx (Option.some.inj e).symm)).keep kst
 ·dsimp only
  rw [b3, em, hzp]
  simp
structure HvI (M : Nat) (W : World) (hv : Value) (ps : List PG) : Prop where
 row : RowG pgR M 172 W hv ps
 own : OwnL W M ps
theorem HvI.next {M : Nat} {W W' : World} {hv : Value} {ps : List PG} (h : HvI M W hv ps) (hb : Below W.heap.size W W') : HvI M W' hv ps := ⟨h.row.next hb, h.own.next hb⟩
theorem pg_at {M : Nat} {w : World} {v : Value} {xs : List PG} {x : PG} (h : RowG pgR M 172 w v xs) (i : Nat) (hx : xs[i]? = some x) : ∃ b off c, v = .slice (some ⟨b, off, none⟩) xs.length c ∧ w.cell? ⟨b, off + i * 4, none⟩ = some x.val ∧ w.cell? ⟨b, off + i * 4 + 1, none⟩ = some (.int .i64 x.p.nest) ∧ w.cell? ⟨b, off + i * 4 + 2, none⟩ = some (.int .i64 x.p.tokens) ∧ w.cell? ⟨b, off + i * 4 + 3, none⟩ = some (.bool x.p.plain) := by
 obtain ⟨hi, e⟩ := List.getElem?_eq_some_iff.1 hx
 obtain ⟨b, off, c, cs, e1, ⟨e2, _⟩, e3⟩ := row_at h i hi
 rw [e] at e2
 subst e2
 exact ⟨b, off, c, e1, e3 0 _ rfl, e3 1 _ rfl, e3 2 _ rfl, e3 3 _ rfl⟩
theorem showverb_any (w : World) (b B1 n1 B2 n2 : Nat) (i : Itm) (a : Int) (nm nu : Value) (hb : b < w.heap.size)
  (hc0 : w.cell? ⟨b, 0, none⟩ = some (.map (some B1))) (h1 : MapS 119 .u8 B1 n1 woneW w) (hc1 : w.cell? ⟨b, 1, none⟩ = some (.map (some B2))) (h2 : MapS 119 .u8 B2 n2 wtwoW w)
  (h3 : i.how = 3 ∨ i.how = 5 ∨ i.how = 6 ∨ i.how = 4 ∨ i.how = 7) (hv : (vstrS LL i).1 ≠ []) :
  Calls Tryz.prog 104 #[.pointer (some ⟨b, 0, none⟩), itV i a nm nu] w fun e w' => e = .returned (.tuple #[.string (str (vstrS LL i).1), .int .i64 ((vstrS LL i).2 : Nat)]) ∧ Below w.heap.size w w' := by
 have hf : FnOk i := (vstr_len i).2.2 hv
 by_cases h : i.how = 3
 ·have e : vstrS LL i = (woneW i.fn, 1) := by unfold vstrS; rw [if_pos h]; rfl
  rw [e]
  exact showverb_three w b B1 n1 i a nm nu woneW hb hc0 h1 hf h
 ·refine (showverb_rest w b B2 n2 i a nm nu wtwoW hb hc1 h2 hf (by have := (words16 i.fn).1; omega) (by omega)).mono ?_
  rintro e w' ⟨rfl, hb⟩
  refine ⟨?_, hb⟩
  have e2 : LL.wtwo i.fn = wtwoW i.fn := rfl
  unfold vstrS
  rw [if_neg h, e2]
  split
  ·rfl
  ·split <;> rfl
end Go.Proofs.YtokghjnkfabgiaaGreatDoor
