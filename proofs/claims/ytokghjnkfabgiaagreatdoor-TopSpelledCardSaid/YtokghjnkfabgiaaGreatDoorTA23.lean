import Derived.Test.YtokghjnkfabgiaaGreatDoorTA21
import Derived.Test.YtokghjnkfabgiaaGreatDoorTA22
namespace Go.Proofs.YtokghjnkfabgiaaGreatDoor
set_option maxRecDepth 100000
open Go.RowKit Go.Lib
set_option linter.unusedVariables false
set_option linter.unusedSimpArgs false
attribute [local go_sem] str_size str_get str_toList

/-! show.operand. Pieces in memory: each has a row of words of its own. -/
structure PG where
  p : Pc
  g : Nat
  cap : Nat
def wcells (ws : List Str) : List Value := ws.map fun s => .string (str s)
theorem wcells_len (ws : List Str) : (wcells ws).length = ws.length := by simp [wcells]
theorem wcells_one (ws : List Str) : ∀ v ∈ wcells ws, v.oneCell' = true := by
  intro v hv
  obtain ⟨s, _, rfl⟩ := List.mem_map.1 hv
  rfl
def PG.val (x : PG) : Value := .slice (some ⟨x.g, 0, none⟩) x.p.words.length x.cap
def PG.cells (x : PG) : List Value := [x.val, .int .i64 x.p.nest, .int .i64 x.p.tokens, .bool x.p.plain]
def PG.Own (x : PG) (w : World) (M : Nat) : Prop := w.ownsRow M 9 1 x.val x.p.words.length (wcells x.p.words) ∧ x.p.words ≠ []
theorem results_oper {fn : Func} {p q : Tmp} (h : fn.results = #[.cell p 172, .tmp q]) (tmps : Array Value) (w : World) {cs : Array Value} {g : Nat} {y : Value}
    (hp : tmps.getD p undef = .pointer (some ⟨g, 0, none⟩)) (hg : w.heap[g]? = some (.cells cs 172 (0, 0))) (hs : (Tryz.prog.info? 172).map (·.size) = some cs.size) (hy : tmps.getD q undef = y) :
    (results fn tmps).run Tryz.prog w = .ok (.tuple #[.agg cs, y]) w := by
  have hp' : tmps[p]?.getD undef = .pointer (some ⟨g, 0, none⟩) := by simpa using hp
  have hy' : tmps[q]?.getD undef = y := by simpa using hy
  simp [results, h, hp', hy', asAddr, run_loadVar_row w g 172 172 cs (0, 0) _ hg Tryz.underlying172 rfl hs]
theorem wp_storeW {P : Program} {o : Oper} {a : Act} {w : World} {K : Act → World → Prop} {Q : Exit → Act → World → Prop} (ty : TypeId) (x y : Operand) (ho : o.op = .store ty x y)
    (g : Nat) (hx : a.eval x = .pointer (some ⟨g, 0, none⟩)) (c c' : Array Value) (hy : a.eval y = .agg c') (t : TypeId) (hg : w.heap[g]? = some (.cells c t (0, 0))) (hi : (P.info? ty).map (·.size) = some c'.size) (hs : c.size = c'.size) (h1 : (c'.toList.all fun v => v.oneCell') = true)
    (h : ∀ w', w'.heap[g]? = some (.cells c' t (0, 0)) → w.grownBy w' (some g) → K (a.put o.dst undef) w') : o.wp P a w K Q := by
  have hall : c'.all (·.oneCell') = true := Array.all_eq_true_iff_forall_mem.2 (fun v hv => List.all_eq_true.1 h1 v (by simpa using hv))
  unfold Oper.wp execOp
  simp only [ho, hx, hy, Instr.storeAt, Instr.sureAddr, Sem.run_bind, Sem.run_pure, Result.andThen_ok, run_storeVar_row (P := P) w g t ty c c' hg hi hs hall]
  exact h _ (setRow_heap w g _ _ t _ hg) ⟨rfl, rfl, rfl, by simp [World.setRow], fun j _ hj => setRow_other w g j _ (fun e => hj (by rw [e]))⟩
theorem own_lit {w : World} {M g : Nat} {s : Str} (hM : M ≤ g) (h : w.heap[g]? = some (.cells #[.string (str s)] 9 (0, 0))) : w.ownsRow M 9 1 (.slice (some ⟨g, 0, none⟩) 1 1) 1 [.string (str s)] :=
  ⟨rfl, .inr ⟨g, 1, _, rfl, hM, h, Nat.le_refl _, by decide, rfl, rfl⟩⟩
/-- what operand says -/
def OpE (w : World) (p : Pc) (e : Ending) (w' : World) : Prop := ∃ x : PG, x.p = p ∧ e = .returned (.tuple #[.agg x.cells.toArray, .bool true]) ∧ x.Own w' w.heap.size ∧ Below w.heap.size w w'
theorem nameW_len {s : Str} (h : nameW s = true) : s.length ≤ 65536 := by
  unfold nameW lexName at h
  simp only [Bool.and_eq_true] at h
  have h2 := h.2
  unfold lexP at h2
  by_cases hl : 65536 < s.length
  · rw [if_pos hl] at h2; cases h2
  · omega
set_option maxHeartbeats 4000000 in
theorem operand_name (w : World) (ht : TabT w) (s : Str) (a : Int) (nu : Value) (hn : RowI 0 w nu []) (hv : nameW s = true) :
    Calls Tryz.prog 103 #[.agg #[.int .i64 2, .int .i64 a, .int .u8 0, .string (str s), nu]] w (OpE w ⟨[s], 0, 1, true⟩) := by
  obtain ⟨na, nc, rfl, -, -⟩ := hn.slice
  have hname := fun W (hW : Below w.heap.size w W) => Name_any s W (ht.below hW) (by have := nameW_len hv; omega)
  rw [hv] at hname
  obtain ⟨y1, hy1⟩ : ∃ y, w.heap.size = y := ⟨_, rfl⟩
  rw [hy1] at hname
  have HN := Lib.hid hname
  clear hname hn ht
  have hb : Below w.heap.size w ((w.alloc (.cells #[.int .i64 2, .int .i64 a, .int .u8 0, .string (str s), .slice na 0 nc] 121)).alloc (.cells #[.slice none 0 0, .int .i64 0, .int .i64 0, .bool false] 172)) := ((Below.refl _ _).alloc (Nat.le_refl _) _).alloc (by simp) _
  obtain ⟨x0, x1⟩ := new2 (Below.refl _ ((w.alloc (.cells #[.int .i64 2, .int .i64 a, .int .u8 0, .string (str s), .slice na 0 nc] 121)).alloc (.cells #[.slice none 0 0, .int .i64 0, .int .i64 0, .bool false] 172)))
  have HX := Lib.hid (And.intro hb (And.intro x0 x1))
  clear hb x0 x1
  go_enter Tryz.func103, Tryz.ntmps103
  go_upto_region 2 with fail
  refine gen_worldA (fun W => Below w.heap.size w W ∧ W.heap[w.heap.size]? = _ ∧ W.heap[w.heap.size + 1]? = _) HX.out ?_
  clear HX
  rw [hy1]
  rintro W ⟨hb, x0, x1⟩
  obtain ⟨y2, hy2⟩ : ∃ y, y1 + 1 = y := ⟨_, rfl⟩
  rw [hy2] at x1 ⊢
  have hwl := block_lt x1
  refine wp_region_Z (S := fun W' => W'.cell? ⟨y1, 2, none⟩ = some (.int .u8 0) ∧ W'.cell? ⟨y1, 3, none⟩ = some (.string (str s)) ∧ W'.cell? ⟨y1, 4, none⟩ = some (.slice na 0 nc)) (z := 19) (by kernel_rfl) ?_
  have hSS : ∀ W', W'.heap[y1]? = some (.cells #[.int .i64 2, .int .i64 a, .int .u8 0, .string (str s), .slice na 0 nc] 121 (0, 0)) → (fun W' : World => W'.cell? ⟨y1, 2, none⟩ = some (.int .u8 0) ∧ W'.cell? ⟨y1, 3, none⟩ = some (.string (str s)) ∧ W'.cell? ⟨y1, 4, none⟩ = some (.slice na 0 nc)) W' := fun W' h => ⟨cell_of_row _ y1 2 _ _ _ h, cell_of_row _ y1 3 _ _ _ h, cell_of_row _ y1 4 _ _ _ h⟩
  have hb : Below y1 w W.drew := hb.drew
  have x0 : W.drew.heap[y1]? = _ := x0
  have x1 : W.drew.heap[y2]? = _ := x1
  have hwl : y2 < W.drew.heap.size := hwl
  generalize W.drew = W at hb x0 x1 hwl ⊢
  have hS0 := hSS _ x0
  refine wpAnyZ_take (i := 0) (v := ?_) rfl (by kernel_rfl) (by kernel_rfl) (by kernel_rfl) (fun _ _ _ h => h) (by kernel_rfl) (Or.inl ⟨by rfl, ?_⟩) (by assumption) ?_
  rotate_left
  · intro w' hSw
    try dsimp only at hSw
    try obtain ⟨hSw, hSw2⟩ := hSw
    go_simp
    try with_reducible rfl
  show wpAnyZ _ _ _ _ _ _ _ _ (Act.put _ (some 10) _) _
  simp only [Act.put, List.setIfInBounds_toArray, List.set_cons_zero, List.set_cons_succ]
  refine wpAnyZ_take (i := 1) (v := ?_) rfl (by kernel_rfl) (by kernel_rfl) (by kernel_rfl) (fun _ _ _ h => h) (by kernel_rfl) (Or.inl ⟨by rfl, ?_⟩) (by assumption) ?_
  rotate_left
  · intro w' hSw
    try dsimp only at hSw
    try obtain ⟨hSw, hSw2⟩ := hSw
    go_simp
    try with_reducible rfl
  show wpAnyZ _ _ _ _ _ _ _ _ (Act.put _ (some 11) _) _
  simp only [Act.put, List.setIfInBounds_toArray, List.set_cons_zero, List.set_cons_succ]
  refine wpAnyZ_take (i := 4) (v := ?_) rfl (by kernel_rfl) (by kernel_rfl) (by kernel_rfl) (fun _ _ _ h => h) (by kernel_rfl) (Or.inl ⟨by rfl, ?_⟩) (by assumption) ?_
  rotate_left
  · intro w' hSw
    try dsimp only at hSw
    try obtain ⟨hSw, hSw2⟩ := hSw
    go_simp
    try with_reducible rfl
  show wpAnyZ _ _ _ _ _ _ _ _ (Act.put _ (some 14) _) _
  simp only [Act.put, List.setIfInBounds_toArray, List.set_cons_zero, List.set_cons_succ]
  refine wpAnyZ_take (i := 5) (v := ?_) rfl (by kernel_rfl) (by kernel_rfl) (by kernel_rfl) (fun _ _ _ h => h) (by kernel_rfl) (Or.inl ⟨by rfl, ?_⟩) (by assumption) ?_
  rotate_left
  · intro w' hSw
    try dsimp only at hSw
    try obtain ⟨hSw, hSw2⟩ := hSw
    go_simp
    try with_reducible rfl
  show wpAnyZ _ _ _ _ _ _ _ _ (Act.put _ (some 15) _) _
  simp only [Act.put, List.setIfInBounds_toArray, List.set_cons_zero, List.set_cons_succ]
  refine wpAnyZ_take (i := 6) (v := ?_) rfl (by kernel_rfl) (by kernel_rfl) (by kernel_rfl) (fun _ _ _ h => h) (by kernel_rfl) (Or.inl ⟨by rfl, ?_⟩) (by assumption) ?_
  rotate_left
  · intro w' hSw
    try dsimp only at hSw
    try obtain ⟨hSw, hSw2⟩ := hSw
    go_simp
    try with_reducible rfl
  show wpAnyZ _ _ _ _ _ _ _ _ (Act.put _ (some 16) _) _
  simp only [Act.put, List.setIfInBounds_toArray, List.set_cons_zero, List.set_cons_succ]
  refine wpAnyZ_take (i := 7) (v := ?_) rfl (by kernel_rfl) (by kernel_rfl) (by kernel_rfl) (fun _ _ _ h => h) (by kernel_rfl) (Or.inl ⟨by rfl, ?_⟩) (by assumption) ?_
  rotate_left
  · intro w' hSw
    try dsimp only at hSw
    try obtain ⟨hSw, hSw2⟩ := hSw
    go_simp
    try with_reducible rfl
  show wpAnyZ _ _ _ _ _ _ _ _ (Act.put _ (some 17) _) _
  simp only [Act.put, List.setIfInBounds_toArray, List.set_cons_zero, List.set_cons_succ]
  refine wpAnyZ_take (i := 8) (v := ?_) rfl (by kernel_rfl) (by kernel_rfl) (by kernel_rfl) (fun _ _ _ h => h) (by kernel_rfl) (Or.inl ⟨by rfl, ?_⟩) (by assumption) ?_
  rotate_left
  · intro w' hSw
    try dsimp only at hSw
    try obtain ⟨hSw, hSw2⟩ := hSw
    go_simp
    try with_reducible rfl
  show wpAnyZ _ _ _ _ _ _ _ _ (Act.put _ (some 18) _) _
  simp only [Act.put, List.setIfInBounds_toArray, List.set_cons_zero, List.set_cons_succ]
  refine wpAnyZ_take (i := 9) (v := ?_) rfl (by kernel_rfl) (by kernel_rfl) (by kernel_rfl) (fun _ _ _ h => h) (by kernel_rfl) (Or.inl ⟨by rfl, ?_⟩) (by assumption) ?_
  rotate_left
  · intro w' hSw
    try dsimp only at hSw
    try obtain ⟨hSw, hSw2⟩ := hSw
    go_simp
    try with_reducible rfl
  show wpAnyZ _ _ _ _ _ _ _ _ (Act.put _ (some 19) _) _
  simp only [Act.put, List.setIfInBounds_toArray, List.set_cons_zero, List.set_cons_succ]
  refine wpAnyZ_take (i := 10) (v := ?_) rfl (by kernel_rfl) (by kernel_rfl) (by kernel_rfl) (fun _ _ _ h => h) (by kernel_rfl) (Or.inl ⟨by rfl, ?_⟩) (by assumption) ?_
  rotate_left
  · intro w' hSw
    try dsimp only at hSw
    try obtain ⟨hSw, hSw2⟩ := hSw
    go_simp
    try with_reducible rfl
  show wpAnyZ _ _ _ _ _ _ _ _ (Act.put _ (some 20) _) _
  simp only [Act.put, List.setIfInBounds_toArray, List.set_cons_zero, List.set_cons_succ]
  refine wpAnyZ_take (i := 11) (v := ?_) rfl (by kernel_rfl) (by kernel_rfl) (by kernel_rfl) (fun _ _ _ h => h) (by kernel_rfl) (Or.inl ⟨by rfl, ?_⟩) (by assumption) ?_
  rotate_left
  · intro w' hSw
    try dsimp only at hSw
    try obtain ⟨hSw, hSw2⟩ := hSw
    go_simp
    try with_reducible rfl
  show wpAnyZ _ _ _ _ _ _ _ _ (Act.put _ (some 21) _) _
  simp only [Act.put, List.setIfInBounds_toArray, List.set_cons_zero, List.set_cons_succ]
  refine wpAnyZ_take (i := 12) (v := ?_) rfl (by kernel_rfl) (by kernel_rfl) (by kernel_rfl) (fun _ _ _ h => h) (by kernel_rfl) (Or.inl ⟨by rfl, ?_⟩) (by assumption) ?_
  rotate_left
  · intro w' hSw
    try dsimp only at hSw
    try obtain ⟨hSw, hSw2⟩ := hSw
    go_simp
    try with_reducible rfl
  show wpAnyZ _ _ _ _ _ _ _ _ (Act.put _ (some 22) _) _
  simp only [Act.put, List.setIfInBounds_toArray, List.set_cons_zero, List.set_cons_succ]
  refine wpAnyZ_take (i := 13) (v := ?_) rfl (by kernel_rfl) (by kernel_rfl) (by kernel_rfl) (fun _ _ _ h => h) (by kernel_rfl) (Or.inl ⟨by rfl, ?_⟩) (by assumption) ?_
  rotate_left
  · intro w' hSw
    try dsimp only at hSw
    try obtain ⟨hSw, hSw2⟩ := hSw
    go_simp
    try with_reducible rfl
  show wpAnyZ _ _ _ _ _ _ _ _ (Act.put _ (some 23) _) _
  simp only [Act.put, List.setIfInBounds_toArray, List.set_cons_zero, List.set_cons_succ]
  refine wpAnyZ_take (i := 14) (v := ?_) rfl (by kernel_rfl) (by kernel_rfl) (by kernel_rfl) (fun _ _ _ h => h) (by kernel_rfl) (Or.inl ⟨by rfl, ?_⟩) (by assumption) ?_
  rotate_left
  · intro w' hSw
    try dsimp only at hSw
    try obtain ⟨hSw, hSw2⟩ := hSw
    go_simp
    try with_reducible rfl
  show wpAnyZ _ _ _ _ _ _ _ _ (Act.put _ (some 24) _) _
  simp only [Act.put, List.setIfInBounds_toArray, List.set_cons_zero, List.set_cons_succ]
  refine wpAnyZ_take (i := 15) (v := ?_) rfl (by kernel_rfl) (by kernel_rfl) (by kernel_rfl) (fun _ _ _ h => h) (by kernel_rfl) (Or.inl ⟨by rfl, ?_⟩) (by assumption) ?_
  rotate_left
  · intro w' hSw
    try dsimp only at hSw
    try obtain ⟨hSw, hSw2⟩ := hSw
    go_simp
    try with_reducible rfl
  show wpAnyZ _ _ _ _ _ _ _ _ (Act.put _ (some 25) _) _
  simp only [Act.put, List.setIfInBounds_toArray, List.set_cons_zero, List.set_cons_succ]
  clear hS0
  refine wpAnyZ_twoG (i := 2) (j := 16) (by kernel_rfl) rfl rfl (by rfl) (by rfl) (fun K hK => ?_) (fun K hK => ?_)
  · go_simp
    obtain ⟨g, hg⟩ : ∃ g, W.heap.size = g := ⟨_, rfl⟩
    have hd : Below W.heap.size W (W.alloc (.cells #[.string (str s)] 9)) := (Below.refl _ _).alloc (Nat.le_refl _) _
    have hG := World.alloc_heap_new W (.cells #[.string (str s)] 9)
    have hb1 := hb.alloc (by omega) (.cells #[.string (str s)] 9)
    have x01 := block_below x0 hd
    have x11 := block_below x1 hd
    rw [hg] at hG ⊢
    refine hK.out _ _ (.inr (hSS _ x01)) ?_
    clear hK hd x0 x1 hb
    generalize W.alloc (.cells #[.string (str s)] 9) = W1 at hb1 x01 x11 hG ⊢
    have hS0 := hSS _ x01
    refine wpAnyZ_take (i := 3) (v := ?_) rfl (by kernel_rfl) (by kernel_rfl) (by kernel_rfl) (fun _ _ _ h => h) (by kernel_rfl) (Or.inl ⟨by rfl, ?_⟩) (by assumption) ?_
    rotate_left
    · intro w' hSw
      try dsimp only at hSw
      try obtain ⟨hSw, hSw2⟩ := hSw
      go_simp
      try with_reducible rfl
    show wpAnyZ _ _ _ _ _ _ _ _ (Act.put _ (some 13) _) _
    simp only [Act.put, List.setIfInBounds_toArray, List.set_cons_zero, List.set_cons_succ]
    clear hS0
    refine wpAnyZ_oneG (i := 16) (by kernel_rfl) rfl (by rfl) (fun K hK => ?_)
    go_simp
    refine (HN.out W1 hb1).mono ?_
    rintro e W2 ⟨rfl, hb2⟩
    have x02 := block_below x01 hb2
    have x12 := block_below x11 hb2
    have hG2 := block_below hG hb2
    have hb3 := hb1.trans (hb2.mono (by have := block_lt x01; omega))
    refine hK.out _ _ (.inr (hSS _ x02)) ?_
    have hyg : y2 ≠ g := by omega
    clear hK x01 x11 hG hb2 hb1
    have hS0 := hSS _ x02
    refine wpAnyZ_take (i := 17) (v := ?_) rfl (by kernel_rfl) (by kernel_rfl) (by kernel_rfl) (fun _ _ _ h => h) (by kernel_rfl) (Or.inl ⟨by rfl, ?_⟩) (by assumption) ?_
    rotate_left
    · intro w' hSw
      try dsimp only at hSw
      try obtain ⟨hSw, hSw2⟩ := hSw
      go_simp
      try with_reducible rfl
    show wpAnyZ _ _ _ _ _ _ _ _ (Act.put _ (some 27) _) _
    simp only [Act.put, List.setIfInBounds_toArray, List.set_cons_zero, List.set_cons_succ]
    clear hS0
    refine wpAnyZ_oneG (i := 18) (by kernel_rfl) rfl (by rfl) (fun K hK => ?_)
    refine wp_storeW 172 _ _ rfl y2 rfl _ #[.slice (some ⟨g, 0, none⟩) 1 1, .int .i64 0, .int .i64 1, .bool true] rfl _ x12 (by kernel_rfl) rfl rfl ?_
    intro W3 x13 hg3
    have x03 := block_grown x02 hg3 (by simp; omega)
    have hG3 := block_grown hG2 hg3 (fun e => hyg (Option.some.inj e))
    have hb4 := hb3.grown hg3 (by have := hb3.size; omega) (fun k hk => by cases hk; omega)
    refine hK.out _ _ (.inr (hSS _ x03)) ?_
    clear hK x02 x12 hG2 hb3 hg3
    refine wpAnyZ_oneG (i := 19) (by kernel_rfl) rfl (by rfl) (fun K hK => ?_)
    go_simp
    refine hK.out _ _ (.inl (by omega)) ?_
    clear hK
    refine wpAnyZ_done (by kernel_rfl) ?_ _
    go_wp2_with fail
    refine bodyPost_ret (results_oper rfl _ _ rfl x13 (by kernel_rfl) rfl) rfl ⟨⟨⟨[s], 0, 1, true⟩, g, 1⟩, rfl, rfl, ⟨own_lit (show w.heap.size ≤ g by omega) hG3, by simp⟩, by rw [hy1]; exact hb4⟩
    all_goals skip
  · go_simp
    refine (HN.out W hb).mono ?_
    rintro e W1 ⟨rfl, hb2⟩
    have x01 := block_below x0 hb2
    have x11 := block_below x1 hb2
    have hb1 := hb.trans (hb2.mono (by have := block_lt x0; omega))
    refine hK.out _ _ (.inr (hSS _ x01)) ?_
    clear hK x0 x1 hb2 hb
    have hS0 := hSS _ x01
    refine wpAnyZ_take (i := 17) (v := ?_) rfl (by kernel_rfl) (by kernel_rfl) (by kernel_rfl) (fun _ _ _ h => h) (by kernel_rfl) (Or.inl ⟨by rfl, ?_⟩) (by assumption) ?_
    rotate_left
    · intro w' hSw
      try dsimp only at hSw
      try obtain ⟨hSw, hSw2⟩ := hSw
      go_simp
      try with_reducible rfl
    show wpAnyZ _ _ _ _ _ _ _ _ (Act.put _ (some 27) _) _
    simp only [Act.put, List.setIfInBounds_toArray, List.set_cons_zero, List.set_cons_succ]
    clear hS0
    refine wpAnyZ_oneG (i := 2) (by kernel_rfl) rfl (by rfl) (fun K hK => ?_)
    go_simp
    obtain ⟨g, hg⟩ : ∃ g, W1.heap.size = g := ⟨_, rfl⟩
    have hd : Below W1.heap.size W1 (W1.alloc (.cells #[.string (str s)] 9)) := (Below.refl _ _).alloc (Nat.le_refl _) _
    have hG2 := World.alloc_heap_new W1 (.cells #[.string (str s)] 9)
    have hb3 := hb1.alloc (by have := hb1.size; omega) (.cells #[.string (str s)] 9)
    have x02 := block_below x01 hd
    have x12 := block_below x11 hd
    have hyg : y2 ≠ g := by have := block_lt x11; omega
    rw [hg] at hG2 ⊢
    refine hK.out _ _ (.inr (hSS _ x02)) ?_
    clear hK hd hb1
    generalize W1.alloc (.cells #[.string (str s)] 9) = W2 at hb3 x02 x12 hG2 ⊢
    have hS0 := hSS _ x02
    refine wpAnyZ_take (i := 3) (v := ?_) rfl (by kernel_rfl) (by kernel_rfl) (by kernel_rfl) (fun _ _ _ h => h) (by kernel_rfl) (Or.inl ⟨by rfl, ?_⟩) (by assumption) ?_
    rotate_left
    · intro w' hSw
      try dsimp only at hSw
      try obtain ⟨hSw, hSw2⟩ := hSw
      go_simp
      try with_reducible rfl
    show wpAnyZ _ _ _ _ _ _ _ _ (Act.put _ (some 13) _) _
    simp only [Act.put, List.setIfInBounds_toArray, List.set_cons_zero, List.set_cons_succ]
    clear hS0
    have hyw : y1 ≤ g := by have := block_lt x01; omega
    clear x01 x11
    refine wpAnyZ_oneG (i := 18) (by kernel_rfl) rfl (by rfl) (fun K hK => ?_)
    refine wp_storeW 172 _ _ rfl y2 rfl _ #[.slice (some ⟨g, 0, none⟩) 1 1, .int .i64 0, .int .i64 1, .bool true] rfl _ x12 (by kernel_rfl) rfl rfl ?_
    intro W3 x13 hg3
    have x03 := block_grown x02 hg3 (by simp; omega)
    have hG3 := block_grown hG2 hg3 (fun e => hyg (Option.some.inj e))
    have hb4 := hb3.grown hg3 (by have := hb3.size; omega) (fun k hk => by cases hk; omega)
    refine hK.out _ _ (.inr (hSS _ x03)) ?_
    clear hK x02 x12 hG2 hb3 hg3
    refine wpAnyZ_oneG (i := 19) (by kernel_rfl) rfl (by rfl) (fun K hK => ?_)
    go_simp
    refine hK.out _ _ (.inl (by omega)) ?_
    clear hK
    refine wpAnyZ_done (by kernel_rfl) ?_ _
    go_wp2_with fail
    refine bodyPost_ret (results_oper rfl _ _ rfl x13 (by kernel_rfl) rfl) rfl ⟨⟨⟨[s], 0, 1, true⟩, g, 1⟩, rfl, rfl, ⟨own_lit (show w.heap.size ≤ g by omega) hG3, by simp⟩, by rw [hy1]; exact hb4⟩
    all_goals skip
end Go.Proofs.YtokghjnkfabgiaaGreatDoor

namespace Go.Proofs.YtokghjnkfabgiaaGreatDoor
set_option maxRecDepth 100000
open Go.RowKit Go.Lib
set_option linter.unusedVariables false
set_option linter.unusedSimpArgs false
attribute [local go_sem] str_size str_get str_toList

/-! show.operand: numbers. -/
def strR : Rep Str := Rep.flat 1 (fun s => [.string (str s)]) (fun _ => True) (fun _ => rfl) (by intro x v hv; cases List.mem_singleton.1 hv; rfl)
theorem keep_str (B : Nat) (t : TypeId) : KeepR strR B t := fun _ _ _ _ _ _ h => h
theorem str_cs {w : World} : ∀ {ws : List Str} {cs : List Value}, strR.Cs w cs ws → cs = wcells ws
  | [], cs, h => h
  | x :: ws, cs, ⟨ds, r, e, ⟨h1, _⟩, h2⟩ => by rw [e, h1, str_cs h2]; rfl
theorem cs_str {w : World} : ∀ (ws : List Str), strR.Cs w (wcells ws) ws
  | [] => rfl
  | x :: ws => ⟨[.string (str x)], wcells ws, rfl, ⟨rfl, trivial⟩, cs_str ws⟩
theorem RowG.words {M : Nat} {w : World} {v : Value} {ws : List Str} (h : RowG strR M 9 w v ws) : w.ownsRow M 9 1 v ws.length (wcells ws) := by
  obtain ⟨cs, h1, h2⟩ := h
  rw [str_cs h2] at h1
  exact h1
theorem RowG.ofWords {M : Nat} {w : World} {v : Value} {ws : List Str} (h : w.ownsRow M 9 1 v ws.length (wcells ws)) : RowG strR M 9 w v ws := ⟨_, h, cs_str ws⟩
theorem words_val {M : Nat} {w : World} {v : Value} {ws : List Str} (h : w.ownsRow M 9 1 v ws.length (wcells ws)) (h0 : ws ≠ []) : ∃ g cap, v = .slice (some ⟨g, 0, none⟩) ws.length cap ∧ M ≤ g := by
  obtain ⟨_, ⟨_, h2⟩ | ⟨g, cap, cur, rfl, hg, _⟩⟩ := h
  · exact absurd (List.eq_nil_of_length_eq_zero h2) h0
  · exact ⟨g, cap, rfl, hg⟩
structure OpN (w : World) (y2 y4 N : Nat) (W : World) (v : Value) (ws : List Str) : Prop where
  below : Below w.heap.size w W
  b2 : W.heap[y2]? = some (.cells #[.slice none 0 0, .int .i64 0, .int .i64 0, .bool false] 172 (0, 0))
  b4 : W.heap[y4]? = some (.cells #[v, .int .i64 0, .int .i64 (N : Int), .bool true] 172 (0, 0))
  row : RowG strR w.heap.size 9 W v ws
theorem OpN.next {w W W' : World} {y2 y4 N : Nat} {v : Value} {ws : List Str} (h : OpN w y2 y4 N W v ws) (hb : Below W.heap.size W W') : OpN w y2 y4 N W' v ws :=
  ⟨h.below.trans (hb.mono (by have := h.below.size; omega)), block_below h.b2 hb, block_below h.b4 hb, h.row.next hb⟩
set_option maxHeartbeats 4000000 in
theorem operand_num (w : World) (ht : TabT w) (nums : List Int) (a : Int) (nu : Value) (hn : RowI 0 w nu nums) (h0 : nums ≠ []) (hl : nums.length ≤ 256) (h64 : ∀ n ∈ nums, in64B n = true) :
    Calls Tryz.prog 103 #[.agg #[.int .i64 1, .int .i64 a, .int .u8 0, .string (str []), nu]] w (OpE w ⟨nums.map numStr, 0, nums.length, true⟩) := by
  obtain ⟨na, nc, rfl, hm, hcell⟩ := hn.slice
  have hb : Below w.heap.size w ((w.alloc (.cells #[.int .i64 1, .int .i64 a, .int .u8 0, .string (str []), .slice na nums.length nc] 121)).alloc (.cells #[.slice none 0 0, .int .i64 0, .int .i64 0, .bool false] 172)) := ((Below.refl _ _).alloc (Nat.le_refl _) _).alloc (by simp) _
  obtain ⟨x0, x1⟩ := new2 (Below.refl _ ((w.alloc (.cells #[.int .i64 1, .int .i64 a, .int .u8 0, .string (str []), .slice na nums.length nc] 121)).alloc (.cells #[.slice none 0 0, .int .i64 0, .int .i64 0, .bool false] 172)))
  have HX := Lib.hid (And.intro hb (And.intro x0 x1))
  have HC := Lib.hid hcell; have H64 := Lib.hid h64; have HT := Lib.hid ht
  clear hb x0 x1 hcell hn h64 ht
  have hn1 : 0 < nums.length := by
    cases nums with
    | nil => exact absurd rfl h0
    | cons x r => simp
  have q0 : ((nums.length : Int) == 0) = false := by rw [beq_eq_false_iff_ne]; omega
  have q256 : decide (256 < (nums.length : Int)) = false := decide_eq_false (by omega)
  have qq : ((nums.length : Int) == 0 || decide (256 < (nums.length : Int))) = false := by rw [q0, q256]; rfl
  obtain ⟨y1, hy1⟩ : ∃ y, w.heap.size = y := ⟨_, rfl⟩
  go_enter Tryz.func103, Tryz.ntmps103
  go_upto_region 5 with fail
  refine gen_worldA (fun W => Below w.heap.size w W ∧ W.heap[w.heap.size]? = _ ∧ W.heap[w.heap.size + 1]? = _) HX.out ?_
  clear HX
  rw [hy1]
  rintro W ⟨hb, x0, x1⟩
  obtain ⟨y2, hy2⟩ : ∃ y, y1 + 1 = y := ⟨_, rfl⟩
  rw [hy2] at x1 ⊢
  have c4 := cell_of_row _ y1 4 _ _ _ x0
  have HX := Lib.hid (And.intro hb (And.intro x0 x1))
  clear hb x0 x1
  go_upto_region 6 with fail
  have hx : OpN w y2 W.heap.size nums.length (W.alloc (.cells #[.slice none 0 0, .int .i64 0, .int .i64 nums.length, .bool true] 172)) (.slice none 0 0) [] := by
    obtain ⟨hb, x0, x1⟩ := HX.out
    have hd : Below W.heap.size W (W.alloc (.cells #[.slice none 0 0, .int .i64 0, .int .i64 nums.length, .bool true] 172)) := (Below.refl _ _).alloc (Nat.le_refl _) _
    exact ⟨by rw [hy1]; exact hb.alloc (by have := hb.size; omega) _, block_below x1 hd, World.alloc_heap_new _ _, RowG.nil _ _ _ _⟩
  have x0 := block_below HX.out.2.1 ((Below.refl _ _).alloc (Nat.le_refl _) (.cells #[.slice none 0 0, .int .i64 0, .int .i64 nums.length, .bool true] 172))
  have hy2w := block_lt HX.out.2.2
  obtain ⟨y4, hy4⟩ : ∃ y, W.heap.size = y := ⟨_, rfl⟩
  rw [hy4] at hx hy2w ⊢
  generalize W.alloc (.cells #[.slice none 0 0, .int .i64 0, .int .i64 nums.length, .bool true] 172) = W1 at hx x0 ⊢
  have c4 := cell_of_row _ y1 4 _ _ _ x0
  have HX1 := Lib.hid hx
  clear HX hx x0
  go_upto_region 7 with fail
  go_loopw [56] (fun v wr => ∃ (i : Nat) (u : Value), v = .int .i64 (i : Int) ∧ i ≤ nums.length ∧ OpN w y2 y4 nums.length wr u ((nums.take i).map numStr)) (fun v wr => nums.length - (Lib.intOf v).toNat)
  case atStart => exact ⟨0, _, rfl, Nat.zero_le _, HX1.out⟩
  case round =>
    clear HX1
    obtain ⟨i, u, rfl, hi, hx⟩ := hrel
    by_cases hil : i < nums.length
    · have q : decide ((i : Int) < (nums.length : Int)) = true := decide_eq_true (by omega)
      obtain ⟨g1, f1, rfl, z1⟩ := HC.out i hil
      have hz := (hx.below.cell (World.block_lt_of_cell? _ _ z1)).trans z1
      have h64 := H64.out _ (List.getElem_mem hil)
      have htk : (nums.take (i + 1)).map numStr = (nums.take i).map numStr ++ [numStr nums[i]] := by rw [List.take_succ_eq_append_getElem hil, List.map_append]; rfl
      have hsn := fun W (hW : TabT W) => shownum_any nums[i] h64 W hW
      generalize nums[i] = num at hz htk hsn
      have HX := Lib.hid hx; have HTK := Lib.hid htk; have HSN := Lib.hid hsn
      clear hx htk hsn h64 z1
      go_upto_region 9 with fail
      obtain ⟨ua, uc, rfl⟩ := HX.out.row.form
      have hlu : ((nums.take i).map numStr).length = i := by simp; omega
      rw [hlu] at HX
      refine wp_region_Z (S := fun W' => W'.cell? ⟨y4, 0, none⟩ = some (.slice ua i uc)) (z := 7) (by kernel_rfl) ?_
      have HX2 := Lib.hid (HX.out.next (Below.drew (Below.refl _ _)))
      clear HX
      generalize wr.drew = W2 at HX2 ⊢
      have hS0 : (fun W' : World => W'.cell? ⟨y4, 0, none⟩ = some (.slice ua i uc)) W2 := cell_of_row _ y4 0 _ _ _ HX2.out.b4
      refine wpAnyZ_take (i := 0) (v := ?_) rfl (by kernel_rfl) (by kernel_rfl) (by kernel_rfl) (fun _ _ _ h => h) (by kernel_rfl) (Or.inl ⟨by rfl, ?_⟩) (by assumption) ?_
      rotate_left
      · intro w' hSw
        try dsimp only at hSw
        try obtain ⟨hSw, hSw2⟩ := hSw
        go_simp
        try with_reducible rfl
      show wpAnyZ _ _ _ _ _ _ _ _ (Act.put _ (some 60) _) _
      simp only [Act.put, List.setIfInBounds_toArray, List.set_cons_zero, List.set_cons_succ]
      refine wpAnyZ_take (i := 1) (v := ?_) rfl (by kernel_rfl) (by kernel_rfl) (by kernel_rfl) (fun _ _ _ h => h) (by kernel_rfl) (Or.inl ⟨by rfl, ?_⟩) (by assumption) ?_
      rotate_left
      · intro w' hSw
        try dsimp only at hSw
        try obtain ⟨hSw, hSw2⟩ := hSw
        go_simp
        try with_reducible rfl
      show wpAnyZ _ _ _ _ _ _ _ _ (Act.put _ (some 61) _) _
      simp only [Act.put, List.setIfInBounds_toArray, List.set_cons_zero, List.set_cons_succ]
      refine wpAnyZ_take (i := 2) (v := ?_) rfl (by kernel_rfl) (by kernel_rfl) (by kernel_rfl) (fun _ _ _ h => h) (by kernel_rfl) (Or.inl ⟨by rfl, ?_⟩) (by assumption) ?_
      rotate_left
      · intro w' hSw
        try dsimp only at hSw
        try obtain ⟨hSw, hSw2⟩ := hSw
        go_simp
        try with_reducible rfl
      show wpAnyZ _ _ _ _ _ _ _ _ (Act.put _ (some 62) _) _
      simp only [Act.put, List.setIfInBounds_toArray, List.set_cons_zero, List.set_cons_succ]
      clear hS0
      refine wpAnyZ_oneG (i := 3) (by kernel_rfl) rfl (by rfl) (fun K hK => ?_)
      go_simp
      refine (HSN.out W2 (HT.out.below (HX2.out.below))).mono ?_
      rintro e W3 ⟨rfl, hb3⟩
      have hx3 := HX2.out.next hb3
      refine hK.out _ _ (.inr (cell_of_row _ y4 0 _ _ _ hx3.b4)) ?_
      clear hK hb3 HX2
      refine wpAnyZ_oneG (i := 4) (by kernel_rfl) rfl (by rfl) (fun K hK => ?_)
      go_simp
      have hx4 := hx3.next ((Below.refl _ _).alloc (Nat.le_refl _) (.cells #[.string (str (numStr num))] 9))
      have hG := World.alloc_heap_new W3 (.cells #[.string (str (numStr num))] 9)
      have hwl : w.heap.size ≤ (W3.alloc (.cells #[.string (str (numStr num))] 9)).heap.size := hx4.below.size
      obtain ⟨g, hg⟩ : ∃ g, W3.heap.size = g := ⟨_, rfl⟩
      rw [hg] at hG ⊢
      refine hK.out _ _ (.inr (cell_of_row _ y4 0 _ _ _ hx4.b4)) ?_
      clear hK hx3
      generalize W3.alloc (.cells #[.string (str (numStr num))] 9) = W4 at hx4 hG hwl ⊢
      refine wpAnyZ_oneG (i := 5) (by kernel_rfl) rfl (by rfl) (fun K hK => ?_)
      refine wp_pushG (.tmp 61) (.tmp 64) 85 9 rfl (.string ⟨#[]⟩) 16 Tryz.underlying85 (by kernel_rfl) (by rfl) (show 0 < 1 by decide) w.heap.size w.heap.size g (keep_str _ _) _ ((nums.take i).map numStr) (numStr num) _ rfl hx4.row rfl hG ⟨rfl, trivial⟩ (by rw [hlu]; unfold maxLen; omega) (by rw [hlu]; omega) (Nat.le_refl _) hwl ?_
      intro v' W5 hr5 hb5 hg5 hk5
      have b45 := hk5 _ (by decide) _ _ hx4.b4
      have b25 := hk5 _ (by decide) _ _ hx4.b2
      rw [← HTK.out] at hr5
      refine hK.out _ _ (.inr (cell_of_row _ y4 0 _ _ _ b45)) ?_
      clear hK
      have hx5 : OpN w y2 y4 nums.length (W5.setCell ⟨y4, 0, none⟩ v') v' ((nums.take (i + 1)).map numStr) := by
        have hkk : ∀ u, u ≠ 172 → KeepTy u W5 (W5.setCell ⟨y4, 0, none⟩ v') := fun u hu => KeepTy.setCell (p := ⟨y4, 0, none⟩) (NotTy.of b45 (Ne.symm hu)) _
        have hne : y4 ≠ y2 := by omega
        have hwy : w.heap.size ≤ y4 := by omega
        refine ⟨(hx4.below.trans hb5).setCell (p := ⟨y4, 0, none⟩) hwy _, block_other (p := ⟨y4, 0, none⟩) b25 hne _, ?_, hr5.same (fun _ _ h => h) (hkk _ (by decide))⟩
        exact set_block b45
      have HX5 := Lib.hid hx5
      obtain ⟨va, vc, rfl⟩ := hr5.form
      have hlu2 : ((nums.take (i + 1)).map numStr).length = i + 1 := by simp; omega
      rw [hlu2] at HX5 ⊢
      have c40 := cell_of_row _ y4 0 _ _ _ b45
      have f40 := frozen_of_row _ y4 0 _ _ b45
      clear hx4 hG hwl hr5 hb5 hg5 hk5 b45 b25 hx5 HSN
      refine wpAnyZ_oneG (i := 6) (by kernel_rfl) rfl (by rfl) (fun K hK => ?_)
      go_simp
      refine hK.out _ _ (.inr c40) ?_
      clear hK
      refine wpAnyZ_oneG (i := 7) (by kernel_rfl) rfl (by rfl) (fun K hK => ?_)
      go_simp
      refine hK.out _ _ (.inl (by omega)) ?_
      clear hK c40 f40
      refine wpAnyZ_done (by kernel_rfl) ?_ _
      go_wp2_with fail
      go_roundw
      case rel => exact ⟨i + 1, _, by go_num, by omega, HX5.out⟩
      case measure => simp [Lib.intOf]; omega
    · obtain rfl : i = nums.length := by omega
      rw [List.take_length] at hx
      have HX := Lib.hid hx
      have q : decide ((nums.length : Int) < (nums.length : Int)) = false := decide_eq_false (by omega)
      clear hx
      obtain ⟨ua, uc, rfl⟩ := HX.out.row.form
      have k0 := cell_of_row _ y4 0 _ _ _ HX.out.b4
      have k1 := cell_of_row _ y4 1 _ _ _ HX.out.b4
      have k2 := cell_of_row _ y4 2 _ _ _ HX.out.b4
      have k3 := cell_of_row _ y4 3 _ _ _ HX.out.b4
      have l0 := cell_of_row _ y2 0 _ _ _ HX.out.b2
      have l1 := cell_of_row _ y2 1 _ _ _ HX.out.b2
      have l2 := cell_of_row _ y2 2 _ _ _ HX.out.b2
      have l3 := cell_of_row _ y2 3 _ _ _ HX.out.b2
      have f0 := frozen_of_row _ y2 0 _ _ HX.out.b2
      have f1 := frozen_of_row _ y2 1 _ _ HX.out.b2
      have f2 := frozen_of_row _ y2 2 _ _ HX.out.b2
      have f3 := frozen_of_row _ y2 3 _ _ HX.out.b2
      have hlm : (nums.map numStr).length = nums.length := by simp
      rw [hlm] at HX k0
      go_wp2_with fail
      have r0 := set_block (k := 0) (v := .slice ua nums.length uc) HX.out.b2
      have r1 := set_block (k := 1) (v := .int .i64 0) r0
      have r2 := set_block (k := 2) (v := .int .i64 nums.length) r1
      have r3 := set_block (k := 3) (v := .bool true) r2
      have kall : ∀ u, u ≠ 172 → KeepTy u wr ((((wr.setCell ⟨y2, 0, none⟩ (.slice ua nums.length uc)).setCell ⟨y2, 1, none⟩ (.int .i64 0)).setCell ⟨y2, 2, none⟩ (.int .i64 nums.length)).setCell ⟨y2, 3, none⟩ (.bool true)) := fun u hu =>
        (((KeepTy.setCell (p := ⟨y2, 0, none⟩) (NotTy.of HX.out.b2 (Ne.symm hu)) _).trans (KeepTy.setCell (p := ⟨y2, 1, none⟩) (NotTy.of r0 (Ne.symm hu)) _)).trans (KeepTy.setCell (p := ⟨y2, 2, none⟩) (NotTy.of r1 (Ne.symm hu)) _)).trans (KeepTy.setCell (p := ⟨y2, 3, none⟩) (NotTy.of r2 (Ne.symm hu)) _)
      have hwy : w.heap.size ≤ y2 := by omega
      have hb := (((HX.out.below.setCell (p := ⟨y2, 0, none⟩) hwy (.slice ua nums.length uc)).setCell (p := ⟨y2, 1, none⟩) hwy (.int .i64 0)).setCell (p := ⟨y2, 2, none⟩) hwy (.int .i64 nums.length)).setCell (p := ⟨y2, 3, none⟩) hwy (.bool true)
      have hr3 := own_keep HX.out.row.words (kall _ (by decide))
      obtain ⟨g, cap, e, hgM⟩ := words_val hr3 (by simpa using h0)
      rw [hlm] at e
      rw [e] at hr3 hb r3 ⊢
      have hr4 : (((((wr.setCell ⟨y2, 0, none⟩ (.slice (some ⟨g, 0, none⟩) nums.length cap)).setCell ⟨y2, 1, none⟩ (.int .i64 0)).setCell ⟨y2, 2, none⟩ (.int .i64 nums.length)).setCell ⟨y2, 3, none⟩ (.bool true))).heap[y2]? = some (.cells #[.slice (some ⟨g, 0, none⟩) nums.length cap, .int .i64 0, .int .i64 nums.length, .bool true] 172 (0, 0)) := r3
      refine bodyPost_ret (results_oper rfl _ _ rfl hr4 (by kernel_rfl) rfl) rfl ⟨⟨⟨nums.map numStr, 0, nums.length, true⟩, g, cap⟩, rfl, ?_, ⟨?_, by simpa using h0⟩, hb⟩
      · unfold PG.cells PG.val
        dsimp only
        rw [hlm]
        rfl
      · unfold PG.val
        dsimp only
        rw [hlm] at hr3 ⊢
        exact hr3
end Go.Proofs.YtokghjnkfabgiaaGreatDoor
