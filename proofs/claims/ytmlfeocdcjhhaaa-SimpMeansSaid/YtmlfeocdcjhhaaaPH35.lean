import Derived.Test.YtmlfeocdcjhhaaaPH34
namespace Go.Proofs.Ytmlfeocdcjhhaaa
set_option maxRecDepth 100000
open Go.RowKit
set_option linter.unusedVariables false
set_option linter.unusedSimpArgs false
attribute [local go_sem ↓] Go.wp_at_zero Go.wp_at_succ

theorem sums_good {D : List Int} : ∀ (bufs : List Buf) (all : Int), (sumS D bufs all).2 = 0 → ∀ b ∈ bufs, (sizeS D b.sides).2 = true
  | [], all, _, b, hb => by cases hb
  | x :: r, all, h, b, hb => by
    rw [sumS] at h
    split at h
    · exact absurd h (by decide)
    · rename_i hc
      rcases List.mem_cons.1 hb with e | e
      · subst e
        cases hx : (sizeS D b.sides).2 with
        | true => rfl
        | false => exact absurd (.inl hx) hc
      · exact sums_good r _ h b e
theorem cells_bufs {c : Cor} {D : List Int} (h : (cellsS c D).2 = 0) : ∀ b ∈ c.bufs, BufF D b := fun b hb => by
  obtain ⟨hr, hd, _⟩ := cells_dims h
  unfold cellsS at h
  rw [if_pos hr, if_pos hd] at h
  have hs := sums_good _ _ h b hb
  obtain ⟨k, hk, rfl⟩ := List.getElem_of_mem hb
  have hb := right_bufs hr
  unfold bufsOk at hb
  have := List.all_eq_true.1 hb k (List.mem_range.2 hk)
  rw [List.getElem?_eq_getElem hk] at this
  simp only [bufOk, growB, Bool.and_eq_true, decide_eq_true_eq] at this
  exact ⟨this.1.1.1.1, hs, this.1.1.2, this.1.2⟩
/-- what is asked of a core's steps -/
structure StpF (N : Nat) (s : Stp) : Prop where
  loops4 : s.loops.length ≤ 4
  opsl : s.ops.length ≤ 256
  dep : 0 ≤ depthI s.ops
  opk : ∀ o ∈ s.ops, OpK s.loops.length N o
  grows : growsB s.pos = true
  lgrows : ∀ p ∈ s.loops, growsB p = true
  buf : 0 ≤ s.buf ∧ s.buf < N
  how : s.how ≠ 1 → s.loops ≠ []
theorem stepS_stpF {V : Nat} {bufs : List Buf} {made : List Bool} {s : Stp} (h : stepS V bufs made s = true) (hm : made.length = bufs.length) : StpF bufs.length s := by
  unfold stepS stepQ bufQ at h
  simp only [Bool.and_eq_true, decide_eq_true_eq, List.all_eq_true, Bool.or_eq_true] at h
  obtain ⟨⟨⟨hb0, hb1⟩, -⟩, ⟨⟨⟨⟨⟨⟨⟨hp, hl⟩, hw⟩, -⟩, -⟩, -⟩, ho⟩, hd⟩, hops⟩ := h
  unfold growB at hl
  simp only [Bool.and_eq_true, decide_eq_true_eq, List.all_eq_true] at hl
  unfold bothB at hp
  simp only [Bool.and_eq_true] at hp
  refine ⟨hl.1, ho, hd, fun o hm2 => ?_, hp.2, fun p hp => ?_, ⟨hb0, hb1⟩, fun h1 h2 => ?_⟩
  · have := hops o hm2
    unfold opS at this
    simp only [Bool.and_eq_true] at this
    have h2 := this.1
    refine ⟨fun e => ?_, fun e => ?_⟩
    · unfold opB at h2
      rw [if_neg (by omega), if_neg (by omega), if_pos e] at h2
      simp only [Bool.and_eq_true, decide_eq_true_eq] at h2
      exact ⟨h2.1.1.1.1, h2.1.1.1.2⟩
    · unfold opB at h2
      rw [if_neg (by omega), if_neg (by omega), if_neg (by omega), if_pos e] at h2
      unfold madeB at h2
      simp only [Bool.and_eq_true, decide_eq_true_eq] at h2
      rw [hm] at h2
      exact ⟨h2.1.1.1.1.1, h2.1.1.1.1.2⟩
  · have := hl.2 p hp
    unfold bothB at this
    simp only [Bool.and_eq_true] at this
    exact this.2
  · rcases hw with e | e
    · exact h1 e
    · rw [h2] at e; exact e rfl
theorem stepsK_stpF {V : Nat} {bufs : List Buf} : ∀ {l : List Stp} {made : List Bool}, made.length = bufs.length → stepsK V bufs l made = true → ∀ s ∈ l, StpF bufs.length s
  | [], _, _, _, s, hs => by cases hs
  | x :: l, made, hm, h, s, hs => by
    rw [stepsK, Bool.and_eq_true] at h
    rcases List.mem_cons.1 hs with rfl | hs
    · exact stepS_stpF h.1 hm
    · exact stepsK_stpF (by rw [List.length_set]; exact hm) h.2 s hs
theorem right_stps {c : Cor} (h : rightB c = true) : ∀ s ∈ c.steps, StpF c.bufs.length s := by
  unfold rightB at h
  simp only [Bool.and_eq_true] at h
  exact stepsK_stpF (by unfold madeOf; rw [List.length_map]) h.2.2.1
theorem right_outs {c : Cor} (h : rightB c = true) : ∀ k ∈ c.outs, 0 ≤ k ∧ k < c.bufs.length := fun k hk => by
  unfold rightB at h
  simp only [Bool.and_eq_true, List.all_eq_true] at h
  have := h.2.2.2 k hk
  unfold outB at this
  simpa using this
theorem steps_drop (D : List Int) {l : List Stp} {k : Nat} (h : k < l.length) (st : List (List Int) × Int) : stepsR D (l.drop k) k st = match stepR D l[k] st with
    | .error e => .inr ((k : Int), e)
    | .ok st' => stepsR D (l.drop (k + 1)) ((k + 1 : Nat) : Int) st' := by
  rw [List.drop_eq_getElem_cons h, stepsR]
  rfl
def lensR (mem : List (List Int)) : List Nat := mem.map List.length
theorem lens_set (mem : List (List Int)) (b : Nat) (k : Nat) (v : Int) : lensR (mem.set b ((mem.getD b []).set k v)) = lensR mem := by
  unfold lensR
  rw [List.map_set, List.length_set]
  by_cases h : b < mem.length
  · rw [List.getD_eq_getElem?_getD, List.getElem?_eq_getElem h]
    show (mem.map List.length).set b (mem[b].length) = _
    apply List.ext_getElem
    · simp
    · intro i h1 h2
      by_cases e : b = i
      · subst e; simp
      · rw [List.getElem_set_ne e]
  · rw [List.set_eq_of_length_le (by simpa using h)]
theorem put_len {D : List Int} {s : Stp} {mem m : List (List Int)} {n : Nat} {v : Int} (h : putR D s mem n v = .ok m) : lensR m = lensR mem := by
  unfold putR at h
  cases hv : valR D s.pos 121 with
  | error e => rw [hv] at h; cases h
  | ok tt =>
    rw [hv] at h
    change (if _ then _ else _) = _ at h
    split at h
    · cases h
    · cases h
      exact lens_set _ _ _ _
theorem turn_len {D : List Int} {s : Stp} {l1 : Int} {st st' : List (List Int) × Nat × Int} {ix : List Int} (h : turnR D s l1 st ix = .ok st') : lensR st'.1 = lensR st.1 := by
  unfold turnR at h
  split at h
  · cases hf : foldR D st.1 ix s l1.toNat with
    | error e => rw [hf] at h; cases h
    | ok v =>
      rw [hf] at h
      change ((putR D s st.1 st.2.1 v).map _) = _ at h
      cases hp : putR D s st.1 st.2.1 v with
      | error e => rw [hp] at h; cases h
      | ok m => rw [hp] at h; cases h; exact put_len hp
  · cases ho : opsM D st.1 ix s.ops with
    | error e => rw [ho] at h; cases h
    | ok v0 =>
      rw [ho] at h
      change ((if _ then _ else _ : Ex Int).bind _) = _ at h
      cases hm : (if s.how = 3 ∧ 0 < ix.getLastD 0 then mustR (dyadF s.fn st.2.2 v0) else .ok v0 : Ex Int) with
      | error e => rw [hm] at h; cases h
      | ok v =>
        rw [hm] at h
        change ((putR D s st.1 st.2.1 v).map _) = _ at h
        cases hp : putR D s st.1 st.2.1 v with
        | error e => rw [hp] at h; cases h
        | ok m => rw [hp] at h; cases h; exact put_len hp
theorem turns_len {D : List Int} {s : Stp} {l1 : Int} : ∀ (l : List (List Int)) {st st' : List (List Int) × Nat × Int}, turnsR D s l1 l st = .ok st' → lensR st'.1 = lensR st.1
  | [], st, st', h => by cases h; rfl
  | ix :: r, st, st', h => by
    rw [turnsR] at h
    cases ht : turnR D s l1 st ix with
    | error e => rw [ht] at h; cases h
    | ok s1 =>
      rw [ht] at h
      rw [turns_len r h, turn_len ht]
theorem step_len {D : List Int} {s : Stp} {st st' : List (List Int) × Int} (h : stepR D s st = .ok st') : lensR st'.1 = lensR st.1 := by
  unfold stepR at h
  cases hc : countR D (s.how == 2) s.loops (s.ops.length : Int) with
  | error e => rw [hc] at h; cases h
  | ok q =>
    rw [hc] at h
    change (if _ then _ else _) = _ at h
    split at h
    · cases h
    · cases ht : turnsR D s (q.1.getLastD 0) (idxs (if s.how = 2 then q.1.dropLast else q.1)) (st.1, 0, 0) with
      | error e => rw [ht] at h; cases h
      | ok s1 => rw [ht] at h; cases h; exact turns_len _ ht
theorem steps_len {D : List Int} : ∀ (l : List Stp) (i : Int) (st st' : List (List Int) × Int), stepsR D l i st = .inl st' → lensR st'.1 = lensR st.1
  | [], i, st, st', h => by cases h; rfl
  | s :: r, i, st, st', h => by
    rw [stepsR] at h
    cases ht : stepR D s st with
    | error e => rw [ht] at h; cases h
    | ok s1 =>
      rw [ht] at h
      rw [steps_len r _ _ _ h, step_len ht]
theorem load_len {D : List Int} {ins : List Ary} : ∀ (bufs : List Buf) (mem m : List (List Int)), loadR D ins bufs mem = .ok m → (∀ r ∈ mem, r.length ≤ 65536) → ∀ r ∈ m, r.length ≤ 65536
  | [], mem, m, h, hm => by cases h; exact hm
  | b :: r, mem, m, h, hm => by
    have hs := size_bd D b.sides
    rw [loadR] at h
    have hap : ∀ row : List Int, row.length ≤ 65536 → ∀ x ∈ mem ++ [row], x.length ≤ 65536 := fun row hr x hx => by
      rcases List.mem_append.1 hx with hx | hx
      · exact hm x hx
      · cases List.mem_singleton.1 hx; exact hr
    split at h
    · exact load_len r _ m h (hap _ (by rw [List.length_replicate]; omega))
    · split at h
      · rename_i hc
        exact load_len r _ m h (hap _ (by omega))
      · cases h
theorem lens_get {a b : List (List Int)} (h : lensR a = lensR b) (hb : ∀ r ∈ b, r.length ≤ 65536) {k : Nat} (hk : k < a.length) : a[k].length ≤ 65536 := by
  have hl : a.length = b.length := by have := congrArg List.length h; simpa [lensR] using this
  have h1 : (lensR a)[k]? = (lensR b)[k]? := by rw [h]
  unfold lensR at h1
  rw [List.getElem?_map, List.getElem?_map, List.getElem?_eq_getElem hk, List.getElem?_eq_getElem (by omega)] at h1
  simp at h1
  rw [h1]
  exact hb _ (List.getElem_mem _)
/-- what ends well, and no other way: for a region that draws its order in a function that defers -/
def Well (Q : Exit → Act → World → Prop) (e : Exit) (a : Act) (w : World) : Prop := match e with
  | .normal => Q .normal a w
  | _ => False
theorem wp_well {P : Program} {c : Code} {Q : Exit → Act → World → Prop} {a : Act} {w : World} (h : c.wp P (Well Q) a w) : c.wp P Q a w := Code.wp_mono (fun e a w h => by
  cases e <;> first
    | exact h
    | exact h.elim) h
theorem results_run {fn : Func} {p r q : Tmp} (h : fn.results = #[.cell p 55, .tmp r, .cell q 24]) (tmps : Array Value) (w : World) (g g2 : Nat) (v : Value) (at_ x : Int)
    (hp : tmps.getD p undef = .pointer (some ⟨g, 0, none⟩)) (hr : tmps.getD r undef = .int .i64 at_) (hq : tmps.getD q undef = .pointer (some ⟨g2, 0, none⟩)) (hg : w.heap[g]? = some (.cells #[v] 55 (0, 0))) (hg2 : w.heap[g2]? = some (.cells #[.int .i64 x] 24 (0, 0))) :
    (results fn tmps).run Try.prog w = .ok (.tuple #[v, .int .i64 at_, .int .i64 x]) w := by
  have hp' : tmps[p]?.getD undef = .pointer (some ⟨g, 0, none⟩) := by simpa using hp
  have hq' : tmps[q]?.getD undef = .pointer (some ⟨g2, 0, none⟩) := by simpa using hq
  have hr' : tmps[r]?.getD undef = .int .i64 at_ := by simpa using hr
  have hc := cell_of_row w g2 0 _ _ _ hg2
  have hd := cell_of_row w g 0 _ _ _ hg
  have hl1 : (loadVar 55 ⟨g, 0, none⟩).run Try.prog w = .ok v w := by simp [go_sem, hd]
  have hl2 : (loadVar 24 ⟨g2, 0, none⟩).run Try.prog w = .ok (.int .i64 x) w := by simp [go_sem, hc]
  simp [results, h, hp', hq', hr', asAddr, hl1, hl2]
theorem run_of {c : Cor} {D : List Int} {ins : List Ary} (h : ¬ (cellsS c D).2 ≠ 0) : runR c D ins = match (if (ins.length : Int) ≠ mostR c.bufs then .error 120 else loadR D ins c.bufs [] : Ex (List (List Int))) with
    | .error e => ([], 0, e)
    | .ok mem => match stepsR D c.steps 0 (mem, 0) with
      | .inr (i, e) => ([], i, e)
      | .inl st => (outsR D c st.1, 0, 0) := by
  unfold runR
  rw [if_neg h]
  by_cases hm : (ins.length : Int) ≠ mostR c.bufs
  · rw [if_pos hm, if_pos hm]
  · rw [if_neg hm, if_neg hm]
    cases loadR D ins c.bufs [] with
    | error e => rfl
    | ok mem =>
      dsimp only
      cases stepsR D c.steps 0 (mem, 0) with
      | inl st => rfl
      | inr q => rfl
/-- what Run tells, in rows of the call's own -/
def RunG (w : World) (r : List Ary × Int × Int) (e : Ending) (w' : World) : Prop := ∃ v, e = .returned (.tuple #[v, .int .i64 r.2.1, .int .i64 r.2.2]) ∧ RowG (arrO (b0 w.heap.size)) w.heap.size 54 w' v r.1 ∧ Below w.heap.size w w'
theorem rowG_sl {B : Bd} {M : Nat} {w : World} {v : Value} {xs : List Ary} (h : RowG (arrO B) M 54 w v xs) (hB : B.hi ≤ M) : arrRep.Sl w v xs := arrO_sl (h.sl B hB).1
def RunE (w : World) (r : List Ary × Int × Int) (e : Ending) (w' : World) : Prop := ∃ v, e = .returned (.tuple #[v, .int .i64 r.2.1, .int .i64 r.2.2]) ∧ arrRep.Sl w' v r.1 ∧ Below w.heap.size w w'
/-- Run's boxes -/
structure RnB (w W : World) (Z : Nat) (c : Cor) (vb vs vo : Value) : Prop where
  z : W.heap[Z]? = some (.cells #[.int .i64 c.vars, vb, vs, vo] 33 (0, 0))
  o : W.heap[Z + 1]? = some (.cells #[.slice none 0 0] 55 (0, 0))
  e : W.heap[Z + 2]? = some (.cells #[.int .i64 0] 24 (0, 0))
  below : Below w.heap.size w W
  hZ : w.heap.size = Z
section
variable {w W W' : World} {Z : Nat} {c : Cor} {vb vs vo : Value}
theorem RnB.kb {S : Nat → Prop} (h : RnB w W Z c vb vs vo) (hk : KB S W W') (hS : ∀ g, S g → Z + 2 < g) : RnB w W' Z c vb vs vo := by
  have hn : ∀ g, g ≤ Z + 2 → ¬ S g := fun g hg e => by have := hS g e; omega
  exact ⟨(hk.block _ (block_lt h.z) (hn _ (by omega))).trans h.z, (hk.block _ (block_lt h.o) (hn _ (by omega))).trans h.o, (hk.block _ (block_lt h.e) (hn _ (by omega))).trans h.e, h.below.trans (hk.below h.below.size (fun g e => by have := hS g e; have := h.hZ; omega)), h.hZ⟩
theorem RnB.next (h : RnB w W Z c vb vs vo) (hb : Below W.heap.size W W') : RnB w W' Z c vb vs vo := h.kb (S := fun _ => False) (KB.of_below hb (fun g h1 h2 => absurd h2 (by omega))) (fun g e => e.elim)
theorem RnB.new (w : World) (hZ : w.heap.size = Z) : RnB w (((w.alloc (.cells #[.int .i64 c.vars, vb, vs, vo] 33)).alloc (.cells #[.slice none 0 0] 55)).alloc (.cells #[.int .i64 0] 24)) Z c vb vs vo := by
  subst hZ
  refine ⟨?_, ?_, ?_, (((Below.refl _ _).alloc (Nat.le_refl _) _).alloc (by simp) _).alloc (by simp; omega) _, rfl⟩
  · exact block_alloc (block_alloc (World.alloc_heap_new _ _) _) _
  · exact block_alloc ((congrArg (fun n => ((w.alloc (.cells #[.int .i64 c.vars, vb, vs, vo] 33)).alloc (.cells #[.slice none 0 0] 55)).heap[n]?) (by simp)).trans (World.alloc_heap_new _ _)) _
  · exact (congrArg (fun n => (((w.alloc (.cells #[.int .i64 c.vars, vb, vs, vo] 33)).alloc (.cells #[.slice none 0 0] 55)).alloc (.cells #[.int .i64 0] 24)).heap[n]?) (by simp)).trans (World.alloc_heap_new _ _)
end
/-- while the answer is made -/
structure OutI (w W : World) (Z M : Nat) (c : Cor) (vb vs vo : Value) (q : MQ) (D : List Int) (vals : List Value) (mem : List (List Int)) (vx : Value) (xs : List Ary) : Prop where
  z : W.heap[Z]? = some (.cells #[.int .i64 c.vars, vb, vs, vo] 33 (0, 0))
  o : W.heap[Z + 1]? = some (.cells #[vx] 55 (0, 0))
  e : W.heap[Z + 2]? = some (.cells #[.int .i64 0] 24 (0, 0))
  row : ∃ v, W.heap[M]? = some (.cells (q.row D v) 82 (0, 0))
  rows : MemAt (memOwn q vals) W q.ma q.ml q.mc vals mem
  out : RowG (arrO (b0 w.heap.size)) w.heap.size 54 W vx xs
  below : Below w.heap.size w W
  hZ : w.heap.size = Z
section
variable {w W W' : World} {Z M : Nat} {c : Cor} {vb vs vo : Value} {q : MQ} {D : List Int} {vals : List Value} {mem : List (List Int)} {vx vx' : Value} {xs xs' : List Ary}
theorem OutI.next (h : OutI w W Z M c vb vs vo q D vals mem vx xs) (hb : Below W.heap.size W W') : OutI w W' Z M c vb vs vo q D vals mem vx xs := by
  obtain ⟨v, hv⟩ := h.row
  exact ⟨block_below h.z hb, block_below h.o hb, block_below h.e hb, ⟨v, block_below hv hb⟩, h.rows.out hb, h.out.next hb, bNext hb h.below, h.hZ⟩
theorem OutI.keep (h : OutI w W Z M c vb vs vo q D vals mem vx xs) (hr : RowG (arrO (b0 w.heap.size)) w.heap.size 54 W' vx' xs') (hb : Below w.heap.size W W') (hk : ∀ u, u ≠ 54 → KeepTy u W W') :
    W'.heap[Z]? = some (.cells #[.int .i64 c.vars, vb, vs, vo] 33 (0, 0)) ∧ W'.heap[Z + 1]? = some (.cells #[vx] 55 (0, 0)) ∧ W'.heap[Z + 2]? = some (.cells #[.int .i64 0] 24 (0, 0)) ∧ (∃ v, W'.heap[M]? = some (.cells (q.row D v) 82 (0, 0))) ∧ MemAt (memOwn q vals) W' q.ma q.ml q.mc vals mem ∧ Below w.heap.size w W' := by
  obtain ⟨v, hv⟩ := h.row
  refine ⟨hk _ (by decide) _ _ h.z, hk _ (by decide) _ _ h.o, hk _ (by decide) _ _ h.e, ⟨v, hk _ (by decide) _ _ hv⟩, ⟨own_keep h.rows.hdr (hk _ (by decide)), h.rows.hP, fun k hk2 => ?_⟩, h.below.trans hb⟩
  obtain ⟨u, e, hru, hp⟩ := h.rows.row k hk2
  exact ⟨u, e, own_keep hru (hk _ (by decide)), hp⟩
theorem OutI.push (h : OutI w W Z M c vb vs vo q D vals mem vx xs) (hr : RowG (arrO (b0 w.heap.size)) w.heap.size 54 W' vx' xs') (hb : Below w.heap.size W W') (hk : ∀ u, u ≠ 54 → KeepTy u W W') (hM : Z + 1 ≠ M) :
    OutI w (W'.setCell ⟨Z + 1, 0, none⟩ vx') Z M c vb vs vo q D vals mem vx' xs' := by
  obtain ⟨h1, h2, h3, ⟨v, h4⟩, h5, h6⟩ := h.keep hr hb hk
  have hs : ∀ {u : TypeId}, u ≠ 55 → KeepTy u W' (W'.setCell ⟨Z + 1, 0, none⟩ vx') := fun hne => KeepTy.setCell (p := ⟨Z + 1, 0, none⟩) (NotTy.of h2 (Ne.symm hne)) _
  refine ⟨block_other h1 (p := ⟨Z + 1, 0, none⟩) (by show Z + 1 ≠ Z; omega) _, by rw [heap_setCell_same W' (Z + 1) 0 _ _ _ h2]; rfl, block_other h3 (p := ⟨Z + 1, 0, none⟩) (by show Z + 1 ≠ Z + 2; omega) _, ⟨v, block_other h4 (p := ⟨Z + 1, 0, none⟩) hM _⟩,
    ⟨own_keep h5.hdr (hs (by decide)), h5.hP, fun k hk2 => ?_⟩, hr.turn (B := b0 w.heap.size) (fun cs x hx => ?_) (hs (by decide)), h6.setCell (p := ⟨Z + 1, 0, none⟩) (by show w.heap.size ≤ Z + 1; have := h.hZ; omega) _, h.hZ⟩
  · obtain ⟨u, e, hru, hp⟩ := h5.row k hk2
    exact ⟨u, e, own_keep hru (hs (by decide)), hp⟩
  · obtain ⟨v, u, e, g1, g2, g3⟩ := hx
    exact ⟨v, u, e, own_keep g1 (hs (by decide)), own_keep g2 (hs (by decide)), g3⟩
end
set_option maxHeartbeats 16000000 in
theorem run_row (w : World) (c : Cor) (ba sa oa : Option Addr) (bc sc oc : Nat) (hc : CorAt w (.slice ba c.bufs.length bc) (.slice sa c.steps.length sc) (.slice oa c.outs.length oc) c) (ad : Option Addr) (cd : Nat) (D : List Int) (hd : IntsAt .i64 w ad D) (hld : D.length ≤ 9223372036854775807)
    (ia : Option Addr) (ic : Nat) (ins : List Ary) (hi : arrRep.Els w ia ins) (hil : ins.length ≤ maxLen) :
    Calls Try.prog 18 #[.agg #[.int .i64 c.vars, .slice ba c.bufs.length bc, .slice sa c.steps.length sc, .slice oa c.outs.length oc], .slice ad D.length cd, .slice ia ins.length ic] w (RunG w (runR c D ins)) := by
  obtain ⟨R, hR⟩ : ∃ R, runR c D ins = R := ⟨_, rfl⟩
  rw [hR]
  obtain ⟨ba', bc', sa', sc', oa', oc', e1, e2, e3, hels, -, -⟩ := hc.els
  cases e1; cases e2; cases e3
  have hcc := fun W (hb : Below w.heap.size w W) => ccells_any W c ba sa oa bc sc oc (hels.below hb) ad cd D (hd.below hb (Nat.le_refl _)) hld
  obtain ⟨r, hr⟩ : ∃ r, cellsS c D = r := ⟨_, rfl⟩
  simp only [hr] at hcc
  obtain ⟨n, er⟩ := r
  unfold two corV at hcc
  dsimp only at hcc
  obtain ⟨Z, hZ⟩ : ∃ Z, w.heap.size = Z := ⟨_, rfl⟩
  have hnew := RnB.new (c := c) (vb := .slice ba c.bufs.length bc) (vs := .slice sa c.steps.length sc) (vo := .slice oa c.outs.length oc) w hZ
  obtain ⟨bl, hbn⟩ : ∃ n, c.bufs.length = n := ⟨_, rfl⟩
  obtain ⟨sl, hsn⟩ : ∃ n, c.steps.length = n := ⟨_, rfl⟩
  obtain ⟨ol, hon⟩ : ∃ n, c.outs.length = n := ⟨_, rfl⟩
  obtain ⟨dl, hdn⟩ : ∃ n, D.length = n := ⟨_, rfl⟩
  obtain ⟨il, hin⟩ : ∃ n, ins.length = n := ⟨_, rfl⟩
  obtain ⟨cv, hcv⟩ : ∃ n, c.vars = n := ⟨_, rfl⟩
  rw [hbn, hsn, hon, hdn, hin, hcv]
  rw [hbn, hsn, hon] at hnew
  simp only [hbn, hsn, hon, hdn, hcv] at hcc
  have HNEW := Lib.hid hnew; have HCC := Lib.hid hcc; have HRR := Lib.hid hR; have HC := Lib.hid hc; have HELS := Lib.hid hels; have HD := Lib.hid hd; have HI := Lib.hid hi; have HBN := Lib.hid hbn; have HSN := Lib.hid hsn; have HON := Lib.hid hon; have HDN := Lib.hid hdn; have HIN := Lib.hid hin; have HCV := Lib.hid hcv; have HCE := Lib.hid hr; have HLD := Lib.hid hld; have HIL := Lib.hid hil
  clear hnew hcc hR hc hels hd hi hbn hsn hon hdn hin hcv hr hld hil
  have hmf : ∀ (fn : Fn) (first cap : Array Value) (w : World), (Instr.makeFunc fn first cap).run Try.prog w = .ok (.func fn first cap) w := fun _ _ _ _ => rfl
  go_enter_defers Try.func18, Try.ntmps18
  go_upto_region 1 with fail
  rw [show Z + 1 + 1 = Z + 2 from rfl]
  refine gen_worldA (fun W => RnB w W Z c (.slice ba bl bc) (.slice sa sl sc) (.slice oa ol oc)) (by have := HNEW.out; rw [HCV.out] at this; exact this) ?_
  clear HNEW
  intro W1 hb1
  have HB1 := Lib.hid hb1
  have hz := hb1.z
  rw [HCV.out] at hz
  have y0 := cell_of_row W1 Z 0 _ _ _ hz; have y1 := cell_of_row W1 Z 1 _ _ _ hz; have y2 := cell_of_row W1 Z 2 _ _ _ hz; have y3 := cell_of_row W1 Z 3 _ _ _ hz
  have HQ := Lib.hid (HCC.out W1 hb1.below)
  clear hb1 hz HCC
  by_cases he : er = 0
  case neg =>
    have hI : (er != 0) = true := by simpa using he
    obtain rfl : R = ([], 0, er) := by rw [← HRR.out, run_cells (by rw [HCE.out]; exact he), HCE.out]
    clear he
    go_upto_region 3 with (go_at_call 39; refine HQ.out.mono ?_; rintro e w2 ⟨rfl, hb2⟩)
    have hb3 := HB1.out.next hb2
    have g1 : (w2.setCell ⟨Z + 1, 0, none⟩ (.slice none 0 0)).heap[Z + 1]? = some (.cells #[.slice none 0 0] 55 (0, 0)) := by rw [heap_setCell_same w2 (Z + 1) 0 _ _ _ hb3.o]; rfl
    have g2 := block_other hb3.e (p := ⟨Z + 1, 0, none⟩) (by show Z + 1 ≠ Z + 2; omega) (.slice none 0 0)
    have x1 := cell_of_row w2 (Z + 1) 0 _ _ _ hb3.o
    have f1 := frozen_of_row w2 (Z + 1) 0 _ _ hb3.o
    have x2 := cell_of_row _ (Z + 2) 0 _ _ _ g2
    have f2 := frozen_of_row _ (Z + 2) 0 _ _ g2
    have g3 : ((w2.setCell ⟨Z + 1, 0, none⟩ (.slice none 0 0)).setCell ⟨Z + 2, 0, none⟩ (.int .i64 er)).heap[Z + 2]? = some (.cells #[.int .i64 er] 24 (0, 0)) := by rw [heap_setCell_same _ (Z + 2) 0 _ _ _ g2]; rfl
    have g4 := block_other g1 (p := ⟨Z + 2, 0, none⟩) (by show Z + 2 ≠ Z + 1; omega) (.int .i64 er)
    have G3 := Lib.hid g3; have G4 := Lib.hid g4; have HB3 := Lib.hid hb3
    clear g1 g2 g3 g4 hb3 hb2 HQ
    go_wp2_with fail
    refine ⟨_, results_run rfl _ _ (Z + 1) (Z + 2) _ 0 er rfl rfl rfl G4.out G3.out, ?_⟩
    exact ⟨_, rfl, RowG.nil _ _ _ _, (HB3.out.below.setCell (p := ⟨Z + 1, 0, none⟩) (by show w.heap.size ≤ Z + 1; omega) _).setCell (p := ⟨Z + 2, 0, none⟩) (by show w.heap.size ≤ Z + 2; omega) _⟩
  subst he
  have hce : (cellsS c D).2 = 0 := by rw [HCE.out]
  obtain ⟨hr, -, hD⟩ := cells_dims hce
  have hDl : D.length ≤ 6 := (dims_facts hD).1
  have hR := HRR.out
  rw [run_of (by rw [hce]; exact fun h => h rfl)] at hR
  have HBF := Lib.hid (cells_bufs hce); have HSF := Lib.hid (right_stps hr); have HOF := Lib.hid (right_outs hr); have HRV := Lib.hid (right_vars hr); have HDD := Lib.hid hD; have HRX := Lib.hid hR
  clear hce hr hD hR HRR
  go_upto_region 2 with (go_at_call 39; refine HQ.out.mono ?_; rintro e w2 ⟨rfl, hb2⟩)
  have hb3 := HB1.out.next hb2
  have hz := hb3.z
  rw [HCV.out] at hz
  have HB3 := Lib.hid hb3
  clear y0 y1 y2 y3 HB1 HQ hb2 hb3
  have y0 := cell_of_row w2 Z 0 _ _ _ hz; have y1 := cell_of_row w2 Z 1 _ _ _ hz; have y2 := cell_of_row w2 Z 2 _ _ _ hz; have y3 := cell_of_row w2 Z 3 _ _ _ hz
  clear hz
  go_upto_region 6 with fail
  obtain ⟨M, hM⟩ : ∃ M, w2.heap.size = M := ⟨_, rfl⟩
  obtain ⟨q, hq⟩ : ∃ q : MQ, q = ⟨c.vars, .slice ba bl bc, .slice sa sl sc, .slice oa ol oc, ad, cd, none, 0, 0, 0⟩ := ⟨_, rfl⟩
  have hrowM : (w2.alloc (.cells #[.int .i64 cv, .slice ba bl bc, .slice sa sl sc, .slice oa ol oc, .slice ad dl cd, .slice none 0 0, .int .i64 0, .slice none 0 0] 82)).heap[M]? = some (.cells (q.row D (.slice none 0 0)) 82 (0, 0)) := by
    have h1 := heap_new hM (o := .cells #[.int .i64 cv, .slice ba bl bc, .slice sa sl sc, .slice oa ol oc, .slice ad dl cd, .slice none 0 0, .int .i64 0, .slice none 0 0] 82)
    rw [hq]
    unfold MQ.row
    dsimp only
    rw [HCV.out, HDN.out]
    exact h1
  have hba : Below w2.heap.size w2 (w2.alloc (.cells #[.int .i64 cv, .slice ba bl bc, .slice sa sl sc, .slice oa ol oc, .slice ad dl cd, .slice none 0 0, .int .i64 0, .slice none 0 0] 82)) := (Below.refl _ _).alloc (Nat.le_refl _) _
  have hs3 : (w2.alloc (.cells #[.int .i64 cv, .slice ba bl bc, .slice sa sl sc, .slice oa ol oc, .slice ad dl cd, .slice none 0 0, .int .i64 0, .slice none 0 0] 82)).heap.size = M + 1 := by simp [hM]
  have hMZ : Z + 2 < M := by have := block_lt HB3.out.e; omega
  rw [hM]
  obtain ⟨w3, hw3⟩ : ∃ W, w2.alloc (.cells #[.int .i64 cv, .slice ba bl bc, .slice sa sl sc, .slice oa ol oc, .slice ad dl cd, .slice none 0 0, .int .i64 0, .slice none 0 0] 82) = W := ⟨_, rfl⟩
  rw [hw3] at hrowM hba hs3 ⊢
  have hb3 := HB3.out.next hba
  have hbs : bufRep.Sl w q.vb c.bufs := by rw [hq]; have := HC.out.1; rw [HBN.out] at this; exact this
  have hld := load_any w w3 M q D ins c.bufs ia ic hrowM (by rw [hq]) (by rw [hq]) (by rw [hq]) (by omega) hb3.below hbs HI.out (by have := HIL.out; exact this) (by rw [hq]; exact HD.out) hDl HRV.out.2.2.1 HBF.out
  rw [HIN.out, HBN.out] at hld
  have hR := HRX.out
  rw [HIN.out] at hR
  obtain ⟨LR, hLR⟩ : ∃ LR, (if (il : Int) ≠ mostR c.bufs then .error 120 else loadR D ins c.bufs [] : Ex (List (List Int))) = LR := ⟨_, rfl⟩
  rw [hLR] at hld hR
  have HB4 := Lib.hid hb3; have HR2 := Lib.hid hR; have HQE := Lib.hid hq; have HS3 := Lib.hid hs3; have HBS := Lib.hid hbs
  have HM := Lib.hid hM
  have HLR := Lib.hid hLR
  clear hb3 hR hq hs3 hbs hba hw3 HB3 y0 y1 y2 y3 hrowM hLR HRX hM
  cases LR with
  | error e9 =>
    obtain rfl : R = ([], 0, e9) := HR2.out.symm
    unfold LoadE at hld
    dsimp only at hld
    have HL := Lib.hid hld
    clear hld
    go_wp2_with (go_at_call 41; refine HL.out.mono ?_; rintro e1 w4 ⟨rfl, hk4⟩; unfold panE)
    have hb4 := HB4.out.kb hk4 (fun g e => by omega)
    refine leaves_cons (f := 40) (args := #[.pointer (some ⟨Z + 1, 0, none⟩), .pointer (some ⟨Z + 2, 0, none⟩)]) (by simp) (by simp [go_sem]) ?_
    refine (rcatch (Z + 1) (Z + 2) _ _ _ e9 (RnB.o hb4) (RnB.e hb4) (by omega)).mono ?_
    rintro x u' w8 ⟨rfl, rfl, g1, g2, g3⟩
    refine ⟨_, results_run rfl _ _ (Z + 1) (Z + 2) _ 0 e9 rfl rfl rfl g1 g2, ?_⟩
    exact ⟨_, rfl, RowG.nil _ _ _ _, (RnB.below hb4).trans (g3.below (RnB.below hb4).size (fun g hg => by omega))⟩
  | ok mem0 =>
    unfold LoadE at hld
    dsimp only at hld
    have HL := Lib.hid hld
    have hR := HR2.out
    dsimp only at hR
    obtain ⟨X, hX⟩ : ∃ X, stepsR D c.steps 0 (mem0, 0) = X := ⟨_, rfl⟩
    rw [hX] at hR
    have HX := Lib.hid hX; have HR3 := Lib.hid hR
    have hll : ∀ r ∈ mem0, r.length ≤ 65536 := by
      have := HLR.out
      split at this
      · cases this
      · exact load_len _ _ _ this (fun r hr => by cases hr)
    have HLL := Lib.hid hll
    clear hld hR hX HR2 hll
    go_upto_region 7 with (go_at_call 41; refine HL.out.mono ?_; rintro e1 w4 ⟨rfl, ma, ml, mc, vals, hli⟩)
    have hb4 := HB4.out.kb hli.kb (fun g e => by omega)
    obtain ⟨qL, hqL⟩ : ∃ qL : MQ, qL = { q with ma := ma, ml := ml, mc := mc } := ⟨_, rfl⟩
    rw [← hqL] at hli
    have hrs : RunS w (fun g => g < Z + 3) bl M qL D vals w4 mem0 := RunS.of_load hli HB4.out.below (by omega) (by rw [HS3.out]; omega) (fun g e => by omega) (by omega) (fun g e => by rw [HS3.out]; omega) (by rw [hqL, HQE.out])
    have hz := hb4.z
    rw [HCV.out] at hz
    have y2 := cell_of_row w4 Z 2 _ _ _ hz
    have HRS := Lib.hid hrs; have HB5 := Lib.hid hb4; have HQL := Lib.hid hqL
    clear hz hrs hb4 hli hqL HL HB4
    have hsl : sl ≤ 1024 := by rw [← HSN.out]; exact HRV.out.2.2.2.1
    have hol : ol ≤ 64 := by rw [← HON.out]; exact HRV.out.2.2.2.2
    go_wp2_with fail
    go_loopw [36] (fun i wr => ∃ (k : Nat) (t : Int) (mem : List (List Int)), i = .int .i64 k ∧ k ≤ sl ∧ RunS w (fun g => g < Z + 3) bl M { qL with t := t } D vals wr mem ∧ RnB w wr Z c (.slice ba bl bc) (.slice sa sl sc) (.slice oa ol oc) ∧ stepsR D (c.steps.drop k) k (mem, t) = X) (fun i _ => sl - (intOf i).toNat)
    case atStart => exact ⟨0, qL.t, mem0, rfl, Nat.zero_le _, HRS.out, HB5.out, by rw [HQL.out, HQE.out]; exact HX.out⟩
    case round =>
      obtain ⟨k, t, mem, rfl, hk, hrs, hrb, hx⟩ := hrel
      by_cases hlt : k < sl
      · have hks : k < c.steps.length := by rw [HSN.out]; exact hlt
        obtain ⟨b, off, cs, rfl, ⟨v0, v1, v2, rfl, h0, h1, h2, -⟩, hcl⟩ := HELS.out.se k hks
        have e0 := keepCB hrb.below (Nat.le_refl _) (hcl 0 _ rfl); have e1 := keepCB hrb.below (Nat.le_refl _) (hcl 1 _ rfl); have e2 := keepCB hrb.below (Nat.le_refl _) (hcl 2 _ rfl); have e3 := keepCB hrb.below (Nat.le_refl _) (hcl 3 _ rfl); have e4 := keepCB hrb.below (Nat.le_refl _) (hcl 4 _ rfl); have e5 := keepCB hrb.below (Nat.le_refl _) (hcl 5 _ rfl)
        simp only [show stpRep.n = 6 from rfl, Nat.add_zero] at e0 e1 e2 e3 e4 e5
        have hsf := HSF.out _ (List.getElem_mem hks)
        have hsd := steps_drop D hks (mem, t)
        rw [hx] at hsd
        obtain ⟨s, hs⟩ : ∃ s, c.steps[k] = s := ⟨_, rfl⟩
        rw [hs] at e0 e1 e4 hsf hsd h0 h1 h2
        obtain ⟨pa, pc, rfl, hpl, hpe⟩ := Rep.Sl.form h0
        obtain ⟨la, lc, rfl, -, hle⟩ := Rep.Sl.form h1
        obtain ⟨oa', oc', rfl, -, hoe⟩ := Rep.Sl.form h2
        rw [HBN.out] at hsf
        have ha : StepA w bl s pa la oa' := ⟨hpe, hpl, hle, hsf.loops4, hoe, hsf.opsl, hsf.dep, hsf.opk, hsf.grows, hsf.lgrows, hsf.buf, hsf.how⟩
        obtain ⟨n1, hn1⟩ : ∃ n, s.pos.length = n := ⟨_, rfl⟩
        obtain ⟨n2, hn2⟩ : ∃ n, s.loops.length = n := ⟨_, rfl⟩
        obtain ⟨n3, hn3⟩ : ∃ n, s.ops.length = n := ⟨_, rfl⟩
        rw [hn1] at e2; rw [hn2] at e3; rw [hn3] at e5
        have HA := Lib.hid ha; have HSD := Lib.hid hsd; have HN1 := Lib.hid hn1; have HN2 := Lib.hid hn2; have HN3 := Lib.hid hn3; have HRK := Lib.hid hrs; have HBK := Lib.hid hrb
        clear ha hsd hn1 hn2 hn3 hrs hrb hx hs h0 h1 h2 hpl hpe hle hoe hcl hsf hks
        go_upto_region 10 with fail
        have hbox := heap_new (rfl : wr.heap.size = wr.heap.size) (o := .cells #[.int .i64 s.how, .int .i64 s.buf, .slice pa n1 pc, .slice la n2 lc, .int .u8 s.fn, .slice oa' n3 oc'] 42)
        have hbx : Below wr.heap.size wr (wr.alloc (.cells #[.int .i64 s.how, .int .i64 s.buf, .slice pa n1 pc, .slice la n2 lc, .int .u8 s.fn, .slice oa' n3 oc'] 42)) := (Below.refl _ _).alloc (Nat.le_refl _) _
        obtain ⟨zs, hzs⟩ : ∃ z, wr.heap.size = z := ⟨_, rfl⟩
        obtain ⟨w5, hw5⟩ : ∃ W, wr.alloc (.cells #[.int .i64 s.how, .int .i64 s.buf, .slice pa n1 pc, .slice la n2 lc, .int .u8 s.fn, .slice oa' n3 oc'] 42) = W := ⟨_, rfl⟩
        rw [hw5] at hbox hbx ⊢
        have hrs := HRK.out.out hbx
        have hrb := HBK.out.next hbx
        have hst := step_any w w5 _ bl M { qL with t := t } D vals mem s pa la oa' pc lc oc' hrs HA.out (by rw [HQL.out, HQE.out]; exact HD.out) hDl HDD.out
        rw [HN1.out, HN2.out, HN3.out] at hst
        rw [hzs] at hbox ⊢
        have HBOX := Lib.hid hbox; have HST := Lib.hid hst; have HRB := Lib.hid hrb
        clear e0 e1 e2 e3 e4 e5 hbox hbx hw5 hrs hrb hst hzs HRK HBK
        have hsd := HSD.out
        change X = match stepR D s (mem, t) with
          | .error e => .inr ((k : Int), e)
          | .ok st' => stepsR D (c.steps.drop (k + 1)) ((k + 1 : Nat) : Int) st' at hsd
        cases hr : stepR D s (mem, t) with
        | error e9 =>
          rw [hr] at hsd HST
          obtain rfl : X = .inr ((k : Int), e9) := hsd
          obtain rfl : R = ([], (k : Int), e9) := HR3.out.symm
          unfold StepE at HST
          dsimp only at HST
          clear hr
          go_wp2_with (first | ((with_reducible show wpList _ _ _ ({ dst := some _, op := Op.load 42 (.tmp 13), type := _, pos := _, after := _, guard := _ } :: _) _ _); (refine wpList_loadW (by rfl) 42 _ rfl zs rfl _ _ (0, 0) _ HBOX.out Try.underlying42 rfl (by kernel_rfl) ?_)) | (go_at_call 42; refine HST.out.mono ?_; rintro e1 w6 ⟨rfl, hk6⟩; unfold panE))
          have hb6 := HRB.out.kb hk6 (fun g e => by omega)
          refine leaves_cons (f := 40) (args := #[.pointer (some ⟨Z + 1, 0, none⟩), .pointer (some ⟨Z + 2, 0, none⟩)]) (by simp) (by simp [go_sem]) ?_
          refine (rcatch (Z + 1) (Z + 2) _ _ _ e9 (RnB.o hb6) (RnB.e hb6) (by omega)).mono ?_
          rintro x u' w8 ⟨rfl, rfl, g1, g2, g3⟩
          refine ⟨_, results_run rfl _ _ (Z + 1) (Z + 2) _ (k : Int) e9 rfl rfl rfl g1 g2, ?_⟩
          exact ⟨_, rfl, RowG.nil _ _ _ _, (RnB.below hb6).trans (g3.below (RnB.below hb6).size (fun g hg => by omega))⟩
        | ok st9 =>
          rw [hr] at hsd HST
          dsimp only at hsd
          unfold StepE at HST
          dsimp only at HST
          have HSD := Lib.hid hsd
          clear hr hsd
          go_wp2_with (first | ((with_reducible show wpList _ _ _ ({ dst := some _, op := Op.load 42 (.tmp 13), type := _, pos := _, after := _, guard := _ } :: _) _ _); (refine wpList_loadW (by rfl) 42 _ rfl zs rfl _ _ (0, 0) _ HBOX.out Try.underlying42 rfl (by kernel_rfl) ?_)) | (go_at_call 42; refine HST.out.mono ?_; rintro e1 w6 ⟨rfl, hrs6, hk6⟩))
          have hb6 := HRB.out.kb hk6 (fun g e => by omega)
          go_roundw
          case rel => exact ⟨k + 1, st9.2, st9.1, by go_num, by omega, hrs6, hb6, HSD.out.symm⟩
          case measure => simp [intOf]; omega
      · have hkk : k = sl := by omega
        rw [List.drop_eq_nil_of_le (by rw [HSN.out]; omega)] at hx
        obtain rfl : X = .inl (mem, t) := hx.symm
        obtain rfl : R = (outsR D c mem, 0, 0) := HR3.out.symm
        have HRK := Lib.hid hrs; have HBK := Lib.hid hrb
        have hz := hrb.z
        rw [HCV.out] at hz
        have y3 := cell_of_row wr Z 3 _ _ _ hz
        clear hrs hrb hkk hz
        have hoi : OutI w wr Z M c (.slice ba bl bc) (.slice sa sl sc) (.slice oa ol oc) { qL with t := t } D vals mem (.slice none 0 0) [] := by
          obtain ⟨v, hv, -, -⟩ := HRK.out.mac.row
          exact ⟨HBK.out.z, HBK.out.o, HBK.out.e, ⟨v, hv⟩, HRK.out.rows, RowG.nil _ _ _ _, HBK.out.below, HBK.out.hZ⟩
        have HOI := Lib.hid hoi
        have HMI := Lib.hid HRK.out.memI
        have HMN := Lib.hid HRK.out.memN
        clear hoi
        go_wp2_with fail
        go_loopw [49] (fun i wr => ∃ (k : Nat) (vx : Value), i = .int .i64 k ∧ k ≤ ol ∧ OutI w wr Z M c (.slice ba bl bc) (.slice sa sl sc) (.slice oa ol oc) { qL with t := t } D vals mem vx ((outsR D c mem).take k)) (fun i _ => ol - (intOf i).toNat)
        case atStart => exact ⟨0, _, rfl, Nat.zero_le _, HOI.out⟩
        case round =>
          obtain ⟨k2, vx, rfl, hk2, hoi⟩ := hrel
          by_cases hlt2 : k2 < ol
          · have hko : k2 < c.outs.length := by rw [HON.out]; exact hlt2
            obtain ⟨b, off, cs, rfl, ⟨rfl, -⟩, hcl⟩ := HELS.out.oe k2 hko
            have e0 := keepCB hoi.below (Nat.le_refl _) (hcl 0 _ rfl)
            simp only [show (Rep.int .i64).n = 1 from rfl, Nat.add_zero, Nat.mul_one] at e0
            obtain ⟨ho0, ho1⟩ := HOF.out _ (List.getElem_mem hko)
            have hst : (outsR D c mem).take (k2 + 1) = (outsR D c mem).take k2 ++ [(sidesR D (c.bufs.getD c.outs[k2].toNat ⟨[], -1⟩), mem.getD c.outs[k2].toNat [])] := by
              unfold outsR
              rw [List.take_succ_eq_append_getElem (by simpa using hko), List.getElem_map]
            have hol2 : ((outsR D c mem).take k2).length = k2 := by unfold outsR; rw [List.length_take, List.length_map]; omega
            obtain ⟨ob, hob⟩ : ∃ ob : Nat, c.outs[k2] = ob := ⟨c.outs[k2].toNat, by omega⟩
            rw [hob] at e0 ho0 ho1 hst
            rw [Int.toNat_natCast] at hst
            have hobl : ob < c.bufs.length := by omega
            have hobm : ob < mem.length := by rw [HMN.out, ← HBN.out]; exact hobl
            have hgb : c.bufs.getD ob ⟨[], -1⟩ = c.bufs[ob] := by rw [List.getD_eq_getElem?_getD, List.getElem?_eq_getElem hobl]; rfl
            have hgm : mem.getD ob [] = mem[ob] := by rw [List.getD_eq_getElem?_getD, List.getElem?_eq_getElem hobm]; rfl
            rw [hgb, hgm] at hst
            have HST := Lib.hid hst; have HOK := Lib.hid hoi; have HOL2 := Lib.hid hol2
            clear hst hoi hcl hob hgb hgm ho0 hol2 hko
            go_upto_region 17 with fail
            obtain ⟨hbk, ra, rc, hma, hml, y5, hm5, hi5, -, -⟩ := HOK.out.rows.get hobm
            obtain ⟨vst, hrowM⟩ := HOK.out.row
            have x5 : wr.cell? ⟨M, 5, none⟩ = some (.slice (some ⟨hbk, 0, none⟩) mem.length qL.mc) := by rw [cell_of_row wr M 5 _ _ _ hrowM, ← hma, ← hml]; rfl
            have x1 := cell_of_row wr (Z + 1) 0 _ _ _ HOK.out.o
            obtain ⟨cur5, hc5⟩ := own_typed HOK.out.rows.hdr (g := hbk) (by rw [hma]; rfl)
            have hlen := lens_get (steps_len _ _ _ _ HX.out) HLL.out hobm
            obtain ⟨hsz, hev⟩ := size_sides (HBF.out _ (List.getElem_mem hobl)).1 (HBF.out _ (List.getElem_mem hobl)).2.1
            have hsd4 := (HBF.out _ (List.getElem_mem hobl)).1
            have hrow64 := HMI.out _ (List.getElem_mem hobm)
            obtain ⟨bf, hbf⟩ : ∃ bf, c.bufs[ob] = bf := ⟨_, rfl⟩
            have hsi := fun W (hb : Below wr.heap.size wr W) => sides_any w W M { qL with t := t } D vst (block_below hrowM hb) (HOK.out.below.trans (hb.mono HOK.out.below.size)) c.bufs (by rw [HQL.out]; exact HBS.out) ob hobl (by rw [HQL.out, HQE.out]; exact HD.out) hDl hsd4 hev
            have hs64 : ∀ x ∈ sidesR D bf, In64 x := fun x hx => by
              obtain ⟨p, -, rfl⟩ := List.mem_map.1 hx
              exact evalS_in HDD.out p
            rw [hbf] at HST hsd4 hev
            simp only [hbf] at hsi
            obtain ⟨row, hrow⟩ : ∃ row, mem[ob] = row := ⟨_, rfl⟩
            rw [hrow] at HST y5 hm5 hi5 hlen hrow64
            obtain ⟨rl, hrl⟩ : ∃ n, row.length = n := ⟨_, rfl⟩
            rw [hrl] at y5 hlen
            have hml2 : mem.length = bl := HMN.out
            rw [hml2] at x5
            have hS9 : ∀ W W', Below wr.heap.size wr W → (∀ u, u ≠ 54 → KeepTy u W W') → W'.cell? ⟨Z + 1, 0, none⟩ = some vx ∧ W'.cell? ⟨M, 5, none⟩ = some (.slice (some ⟨hbk, 0, none⟩) bl qL.mc) ∧ W'.cell? ⟨hbk, ob, none⟩ = some (.slice ra rl rc) := fun W W' hb hk => by
              refine ⟨?_, ?_, ?_⟩
              · rw [cell_of_row W' (Z + 1) 0 _ _ _ (hk _ (by decide) _ _ (block_below HOK.out.o hb))]; rfl
              · rw [cell_of_row W' M 5 _ _ _ (hk _ (by decide) _ _ (block_below hrowM hb)), ← cell_of_row wr M 5 _ _ _ hrowM]; exact x5
              · rw [cell_of_row W' hbk ob _ _ _ (hk _ (by decide) _ _ (block_below hc5 hb)), ← cell_of_row wr hbk ob _ _ _ hc5]; exact y5
            have HSI := Lib.hid hsi; have HS64 := Lib.hid hs64; have HR64 := Lib.hid hrow64; have HI5 := Lib.hid hi5; have HRL := Lib.hid hrl; have HS9 := Lib.hid hS9
            have hobb : ob < bl := by omega
            clear hsi hs64 hrow64 hi5 hrl hS9 hbf hrow hsz hev hsd4 hma hml hrowM hc5 x5 x1 y5 e0 hml2 hobm hobl ho1
            refine wp_well ?_
            refine wp_region_Z (S := fun W' => W'.cell? ⟨Z + 1, 0, none⟩ = some vx ∧ W'.cell? ⟨M, 5, none⟩ = some (.slice (some ⟨hbk, 0, none⟩) bl qL.mc) ∧ W'.cell? ⟨hbk, ob, none⟩ = some (.slice ra rl rc)) (z := 15) (by kernel_rfl) ?_
            have hb6 : Below wr.heap.size wr wr.drew := Below.drewN wr 1
            obtain ⟨w6, hw6⟩ : ∃ W, wr.drew = W := ⟨_, rfl⟩
            rw [hw6] at hb6 ⊢
            have hSS := HS9.out w6 w6 hb6 (fun u _ => KeepTy.refl _ _)
            have HB6 := Lib.hid hb6
            clear hw6 hb6
            refine wpAnyZ_take (i := 0) (v := ?_) rfl (by kernel_rfl) (by kernel_rfl) (by kernel_rfl) (fun _ _ _ h => h) (by kernel_rfl) (Or.inl ⟨by rfl, ?_⟩) (by assumption) ?_
            rotate_left
            · intro w' hSw
              try dsimp only at hSw
              try obtain ⟨hSw, hSw2⟩ := hSw
              go_simp
              try with_reducible rfl
            show wpAnyZ _ _ _ _ _ _ _ _ (Act.put _ (some 53) _) _
            simp only [Act.put, List.setIfInBounds_toArray, List.set_cons_zero, List.set_cons_succ]
            refine wpAnyZ_take (i := 1) (v := ?_) rfl (by kernel_rfl) (by kernel_rfl) (by kernel_rfl) (fun _ _ _ h => h) (by kernel_rfl) (Or.inl ⟨by rfl, ?_⟩) (by assumption) ?_
            rotate_left
            · intro w' hSw
              try dsimp only at hSw
              try obtain ⟨hSw, hSw2⟩ := hSw
              go_simp
              try with_reducible rfl
            show wpAnyZ _ _ _ _ _ _ _ _ (Act.put _ (some 54) _) _
            simp only [Act.put, List.setIfInBounds_toArray, List.set_cons_zero, List.set_cons_succ]
            refine wpAnyZ_take (i := 2) (v := ?_) rfl (by kernel_rfl) (by kernel_rfl) (by kernel_rfl) (fun _ _ _ h => h) (by kernel_rfl) (Or.inl ⟨by rfl, ?_⟩) (by assumption) ?_
            rotate_left
            · intro w' hSw
              try dsimp only at hSw
              try obtain ⟨hSw, hSw2⟩ := hSw
              go_simp
              try with_reducible rfl
            show wpAnyZ _ _ _ _ _ _ _ _ (Act.put _ (some 55) _) _
            simp only [Act.put, List.setIfInBounds_toArray, List.set_cons_zero, List.set_cons_succ]
            refine wpAnyZ_take (i := 4) (v := ?_) rfl (by kernel_rfl) (by kernel_rfl) (by kernel_rfl) (fun _ _ _ h => h) (by kernel_rfl) (Or.inl ⟨by rfl, ?_⟩) (by assumption) ?_
            rotate_left
            · intro w' hSw
              try dsimp only at hSw
              try obtain ⟨hSw, hSw2⟩ := hSw
              go_simp
              try with_reducible rfl
            show wpAnyZ _ _ _ _ _ _ _ _ (Act.put _ (some 57) _) _
            simp only [Act.put, List.setIfInBounds_toArray, List.set_cons_zero, List.set_cons_succ]
            refine wpAnyZ_take (i := 5) (v := ?_) rfl (by kernel_rfl) (by kernel_rfl) (by kernel_rfl) (fun _ _ _ h => h) (by kernel_rfl) (Or.inl ⟨by rfl, ?_⟩) (by assumption) ?_
            rotate_left
            · intro w' hSw
              try dsimp only at hSw
              try obtain ⟨hSw, hSw2⟩ := hSw
              go_simp
              try with_reducible rfl
            show wpAnyZ _ _ _ _ _ _ _ _ (Act.put _ (some 58) _) _
            simp only [Act.put, List.setIfInBounds_toArray, List.set_cons_zero, List.set_cons_succ]
            refine wpAnyZ_take (i := 6) (v := ?_) rfl (by kernel_rfl) (by kernel_rfl) (by kernel_rfl) (fun _ _ _ h => h) (by kernel_rfl) (Or.inl ⟨by rfl, ?_⟩) (by assumption) ?_
            rotate_left
            · intro w' hSw
              try dsimp only at hSw
              try obtain ⟨hSw, hSw2⟩ := hSw
              go_simp
              try with_reducible rfl
            show wpAnyZ _ _ _ _ _ _ _ _ (Act.put _ (some 59) _) _
            simp only [Act.put, List.setIfInBounds_toArray, List.set_cons_zero, List.set_cons_succ]
            refine wpAnyZ_take (i := 7) (v := ?_) rfl (by kernel_rfl) (by kernel_rfl) (by kernel_rfl) (fun _ _ _ h => h) (by kernel_rfl) (Or.inl ⟨by rfl, ?_⟩) (by assumption) ?_
            rotate_left
            · intro w' hSw
              try dsimp only at hSw
              try obtain ⟨hSw, hSw2⟩ := hSw
              go_simp
              try with_reducible rfl
            show wpAnyZ _ _ _ _ _ _ _ _ (Act.put _ (some 60) _) _
            simp only [Act.put, List.setIfInBounds_toArray, List.set_cons_zero, List.set_cons_succ]
            refine wpAnyZ_take (i := 8) (v := ?_) rfl (by kernel_rfl) (by kernel_rfl) (by kernel_rfl) (fun _ _ _ h => h) (by kernel_rfl) (Or.inl ⟨by rfl, ?_⟩) (by assumption) ?_
            rotate_left
            · intro w' hSw
              try dsimp only at hSw
              try obtain ⟨hSw, hSw2⟩ := hSw
              go_simp
              try with_reducible rfl
            show wpAnyZ _ _ _ _ _ _ _ _ (Act.put _ (some 61) _) _
            simp only [Act.put, List.setIfInBounds_toArray, List.set_cons_zero, List.set_cons_succ]
            refine wpAnyZ_take (i := 9) (v := ?_) rfl (by kernel_rfl) (by kernel_rfl) (by kernel_rfl) (fun _ _ _ h => h) (by kernel_rfl) (Or.inl ⟨by rfl, ?_⟩) (by assumption) ?_
            rotate_left
            · intro w' hSw
              try dsimp only at hSw
              try obtain ⟨hSw, hSw2⟩ := hSw
              go_simp
              try with_reducible rfl
            show wpAnyZ _ _ _ _ _ _ _ _ (Act.put _ (some 62) _) _
            simp only [Act.put, List.setIfInBounds_toArray, List.set_cons_zero, List.set_cons_succ]
            refine wpAnyZ_take (i := 10) (v := ?_) rfl (by kernel_rfl) (by kernel_rfl) (by kernel_rfl) (fun _ _ _ h => h) (by kernel_rfl) (Or.inl ⟨by rfl, ?_⟩) (by assumption) ?_
            rotate_left
            · intro w' hSw
              try dsimp only at hSw
              try obtain ⟨hSw, hSw2⟩ := hSw
              go_simp
              try with_reducible rfl
            show wpAnyZ _ _ _ _ _ _ _ _ (Act.put _ (some 63) _) _
            simp only [Act.put, List.setIfInBounds_toArray, List.set_cons_zero, List.set_cons_succ]
            refine wpAnyZ_one (i := 3) (by kernel_rfl) rfl rfl (fun K hK => ?_)
            go_simp
            refine (HSI.out w6 HB6.out).mono ?_
            rintro e w7 ⟨sa7, sc7, rfl, hsr, hb7⟩
            have hb67 : Below wr.heap.size wr w7 := HB6.out.trans (hb7.mono HB6.out.size)
            show K _ w7
            refine hK.out _ _ (.inr (HS9.out w7 w7 hb67 (fun u _ => KeepTy.refl _ _))) ?_
            have HB7 := Lib.hid hb67
            have HSR : Hid (RowI w.heap.size w7 (.slice sa7 (sidesR D bf).length sc7) (sidesR D bf)) := Lib.hid (own_mono hsr (show w.heap.size ≤ w6.heap.size from Nat.le_trans HOK.out.below.size HB6.out.size))
            obtain ⟨s7, hs7⟩ : ∃ n, (sidesR D bf).length = n := ⟨_, rfl⟩
            rw [hs7] at HSR ⊢
            clear hK hSS hsr hb7 hb67 hs7
            refine wpAnyZ_one (i := 11) (by kernel_rfl) rfl rfl (fun K hK => ?_)
            go_simp
            refine (clone_n w7 ra rl rc row HRL.out.symm (by rw [HRL.out]; omega) (HI5.out.below HB7.out (Nat.le_refl _))).mono ?_
            rintro e w8 ⟨⟨rv, rfl, hrow8⟩, hb8⟩
            obtain ⟨ra8, rc8, rfl⟩ := row_form hrow8
            rw [HRL.out] at hrow8 ⊢
            have hb78 : Below wr.heap.size wr w8 := HB7.out.trans (hb8.mono HB7.out.size)
            show K _ w8
            refine hK.out _ _ (.inr (HS9.out w8 w8 hb78 (fun u _ => KeepTy.refl _ _))) ?_
            have HB8 := Lib.hid hb78
            have HSR8 : Hid (RowI w.heap.size w8 (.slice sa7 s7 sc7) (sidesR D bf)) := Lib.hid (own_keep HSR.out (KeepTy.below hb8))
            have HRW8 : Hid (RowI w.heap.size w8 (.slice ra8 rl rc8) row) := Lib.hid (own_mono hrow8 (show w.heap.size ≤ w7.heap.size from Nat.le_trans HOK.out.below.size HB7.out.size))
            clear hK hrow8 hb8 hb78 HSR
            refine wpAnyZ_one (i := 12) (by kernel_rfl) rfl rfl (fun K hK => ?_)
            go_simp
            show K _ w8
            refine hK.out _ _ (.inr (HS9.out w8 w8 HB8.out (fun u _ => KeepTy.refl _ _))) ?_
            clear hK
            refine wpAnyZ_one (i := 13) (by kernel_rfl) rfl rfl (fun K hK => ?_)
            go_simp
            obtain ⟨G, hG⟩ : ∃ G, w8.heap.size = G := ⟨_, rfl⟩
            have hGn := heap_new hG (o := .cells #[.slice sa7 s7 sc7, .slice ra8 rl rc8] 54)
            have hba : Below w8.heap.size w8 (w8.alloc (.cells #[.slice sa7 s7 sc7, .slice ra8 rl rc8] 54)) := (Below.refl _ _).alloc (Nat.le_refl _) _
            rw [hG]
            obtain ⟨w9, hw9⟩ : ∃ W, w8.alloc (.cells #[.slice sa7 s7 sc7, .slice ra8 rl rc8] 54) = W := ⟨_, rfl⟩
            rw [hw9] at hGn hba ⊢
            have hb9 : Below wr.heap.size wr w9 := HB8.out.trans (hba.mono HB8.out.size)
            show K _ w9
            refine hK.out _ _ (.inr (HS9.out w9 w9 hb9 (fun u _ => KeepTy.refl _ _))) ?_
            have hoi9 := HOK.out.next hb9
            have hy : (arrO (b0 w.heap.size)).At w9 (#[Value.slice sa7 s7 sc7, .slice ra8 rl rc8] : Array Value).toList (sidesR D bf, row) := ⟨_, _, rfl, own_keep HSR8.out (KeepTy.below hba), own_keep HRW8.out (KeepTy.below hba), HS64.out, HR64.out⟩
            clear hK hw9 hG hba
            refine wpAnyZ_one (i := 14) (by kernel_rfl) rfl rfl (fun K hK => ?_)
            refine wp_pushG _ _ 55 54 rfl (.agg #[.slice none 0 0, .slice none 0 0]) 48 Try.underlying55 (by kernel_rfl) rfl (show 0 < 2 by decide) (b0 w.heap.size) w.heap.size G (keep_arr _) vx _ (sidesR D bf, row) _ rfl hoi9.out rfl hGn hy (by rw [HOL2.out]; unfold maxLen; omega) (by rw [HOL2.out]; omega) (Nat.le_refl _) hoi9.below.size ?_
            intro v' w10 hrg hbM hg hkt
            obtain ⟨va', vc', hv'⟩ := hrg.form
            rw [List.length_append, HOL2.out] at hv'
            obtain ⟨nn, hnn⟩ : ∃ n, k2 + [(sidesR D bf, row)].length = n := ⟨_, rfl⟩
            rw [hnn] at hv'
            subst hv'
            have hpu := hoi9.push hrg hbM hkt (by omega)
            rw [← HST.out] at hpu
            obtain ⟨-, ho10, -⟩ := hoi9.keep hrg hbM hkt
            have x1 := cell_of_row w10 (Z + 1) 0 _ _ _ ho10
            have f1 := frozen_of_row w10 (Z + 1) 0 _ _ ho10
            show K _ w10
            refine hK.out _ _ (.inr (HS9.out w9 w10 hb9 hkt)) ?_
            have HPU := Lib.hid hpu
            clear hK hrg hbM hg hkt hnn hpu ho10 hy hoi9 hb9 hGn HSR8 HRW8 HS64 HR64 HB8 HB7 HB6 HSI HS9 HOK
            refine wpAnyZ_one (i := 15) (by kernel_rfl) rfl rfl (fun K hK => ?_)
            go_simp
            show K _ (w10.setCell ⟨Z + 1, 0, none⟩ (.slice va' nn vc'))
            refine hK.out _ _ (.inl (by decide)) ?_
            clear hK x1 f1
            refine wpAnyZ_done (by kernel_rfl) ?_ _
            unfold Well
            dsimp only
            go_wp2_with fail
            go_roundw
            case rel => exact ⟨k2 + 1, _, by go_num, by omega, HPU.out⟩
            case measure => simp [intOf]; omega
          · have hkk : k2 = ol := by omega
            rw [List.take_of_length_le (by unfold outsR; rw [List.length_map, HON.out]; omega)] at hoi
            have x1 := cell_of_row wr (Z + 1) 0 _ _ _ hoi.o
            have f1 := frozen_of_row wr (Z + 1) 0 _ _ hoi.o
            obtain ⟨va, vc, hvx⟩ := hoi.out.form
            obtain ⟨nn, hnn⟩ : ∃ n, (outsR D c mem).length = n := ⟨_, rfl⟩
            rw [hnn] at hvx
            subst hvx
            have HOK := Lib.hid hoi
            have g1 : (wr.setCell ⟨Z + 1, 0, none⟩ (.slice va nn vc)).heap[Z + 1]? = some (.cells #[.slice va nn vc] 55 (0, 0)) := by rw [heap_setCell_same wr (Z + 1) 0 _ _ _ hoi.o]; rfl
            have g2 := block_other hoi.e (p := ⟨Z + 1, 0, none⟩) (by show Z + 1 ≠ Z + 2; omega) (.slice va nn vc)
            have x2 := cell_of_row _ (Z + 2) 0 _ _ _ g2
            have f2 := frozen_of_row _ (Z + 2) 0 _ _ g2
            have g3 : ((wr.setCell ⟨Z + 1, 0, none⟩ (.slice va nn vc)).setCell ⟨Z + 2, 0, none⟩ (.int .i64 0)).heap[Z + 2]? = some (.cells #[.int .i64 0] 24 (0, 0)) := by rw [heap_setCell_same _ (Z + 2) 0 _ _ _ g2]; rfl
            have g4 := block_other g1 (p := ⟨Z + 2, 0, none⟩) (by show Z + 2 ≠ Z + 1; omega) (.int .i64 0)
            have hk1 : ∀ {u : TypeId}, u ≠ 55 → u ≠ 24 → KeepTy u wr ((wr.setCell ⟨Z + 1, 0, none⟩ (.slice va nn vc)).setCell ⟨Z + 2, 0, none⟩ (.int .i64 0)) := fun h1 h2 => (KeepTy.setCell (p := ⟨Z + 1, 0, none⟩) (NotTy.of hoi.o (Ne.symm h1)) _).trans (KeepTy.setCell (p := ⟨Z + 2, 0, none⟩) (NotTy.of g2 (Ne.symm h2)) _)
            have hout := hoi.out.turn (B := b0 w.heap.size) (fun cs x hx => by
              obtain ⟨v, u, e, g1, g2, g3⟩ := hx
              exact ⟨v, u, e, own_keep g1 (hk1 (by decide) (by decide)), own_keep g2 (hk1 (by decide) (by decide)), g3⟩) (hk1 (by decide) (by decide))
            have hbl9 : Below w.heap.size w ((wr.setCell ⟨Z + 1, 0, none⟩ (.slice va nn vc)).setCell ⟨Z + 2, 0, none⟩ (.int .i64 0)) := (hoi.below.setCell (p := ⟨Z + 1, 0, none⟩) (by show w.heap.size ≤ Z + 1; omega) _).setCell (p := ⟨Z + 2, 0, none⟩) (by show w.heap.size ≤ Z + 2; omega) _
            have G3 := Lib.hid g3; have G4 := Lib.hid g4; have HOUT := Lib.hid hout; have HBL9 := Lib.hid hbl9
            clear g1 g2 g3 g4 hout hbl9 hk1 hoi hkk
            go_wp2_with fail
            refine leaves_cons (f := 40) (args := #[.pointer (some ⟨Z + 1, 0, none⟩), .pointer (some ⟨Z + 2, 0, none⟩)]) (by simp) (by simp [go_sem]) ?_
            refine (rcatch_idle _ _ _).mono ?_
            rintro e u' w2 ⟨rfl, rfl, rfl⟩
            refine ⟨_, results_run rfl _ _ (Z + 1) (Z + 2) _ 0 0 rfl rfl rfl G4.out G3.out, ?_⟩
            exact ⟨_, rfl, HOUT.out, HBL9.out⟩
theorem run_any (w : World) (c : Cor) (ba sa oa : Option Addr) (bc sc oc : Nat) (hc : CorAt w (.slice ba c.bufs.length bc) (.slice sa c.steps.length sc) (.slice oa c.outs.length oc) c) (ad : Option Addr) (cd : Nat) (D : List Int) (hd : IntsAt .i64 w ad D) (hld : D.length ≤ 9223372036854775807)
    (ia : Option Addr) (ic : Nat) (ins : List Ary) (hi : arrRep.Els w ia ins) (hil : ins.length ≤ maxLen) :
    Calls Try.prog 18 #[.agg #[.int .i64 c.vars, .slice ba c.bufs.length bc, .slice sa c.steps.length sc, .slice oa c.outs.length oc], .slice ad D.length cd, .slice ia ins.length ic] w (RunE w (runR c D ins)) :=
  (run_row w c ba sa oa bc sc oc hc ad cd D hd hld ia ic ins hi hil).mono fun e w' ⟨v, h1, h2, h3⟩ => ⟨v, h1, rowG_sl h2 (Nat.le_refl _), h3⟩
end Go.Proofs.Ytmlfeocdcjhhaaa

namespace Go.Proofs.Ytmlfeocdcjhhaaa
set_option maxRecDepth 100000
open Go.RowKit
set_option linter.unusedVariables false
set_option linter.unusedSimpArgs false
attribute [local go_sem ↓] Go.wp_at_zero Go.wp_at_succ

theorem arr_facts {w : World} {cs : List Value} {a : Ary} (h : arrRep.At w cs a) : ∃ a1 c1 a2 c2, cs = [.slice a1 a.1.length c1, .slice a2 a.2.length c2] ∧ IntsAt .i64 w a1 a.1 ∧ IntsAt .i64 w a2 a.2 ∧ a.1.length ≤ maxLen ∧ a.2.length ≤ maxLen := by
  obtain ⟨v, u, rfl, h1, h2⟩ := h
  have l1 : a.1.length ≤ maxLen := by obtain ⟨_, _, _, g1, g2, _⟩ := h1; exact Nat.le_trans g1 g2
  have l2 : a.2.length ≤ maxLen := by obtain ⟨_, _, _, g1, g2, _⟩ := h2; exact Nat.le_trans g1 g2
  obtain ⟨a1, c1, rfl⟩ := h1.form0
  obtain ⟨a2, c2, rfl⟩ := h2.form0
  exact ⟨a1, c1, a2, c2, rfl, (int_at h1).2, (int_at h2).2, l1, l2⟩
set_option maxHeartbeats 8000000 in
theorem same08_any (w : World) (xs : List Ary) (va vb : Value) (ha : arrRep.Sl w va xs) (hb : arrRep.Sl w vb xs) : Calls Try.prog 19 #[va, vb] w fun e w' => e = .returned (.bool true) ∧ Below w.heap.size w w' := by
  obtain ⟨a, ac, rfl, hac, ham, -, hae⟩ := ha
  obtain ⟨b, bc, rfl, hbc, hbm, -, hbe⟩ := hb
  obtain ⟨n, hn⟩ : ∃ n, xs.length = n := ⟨_, rfl⟩
  rw [hn] at hac hbc ⊢
  unfold maxLen at ham
  have hn9 : n ≤ 9223372036854775807 := by omega
  have HN := Lib.hid hn; have HA := Lib.hid hae; have HB := Lib.hid hbe
  clear hn hae hbe ham hbm hac hbc
  go_enter Try.func19, Try.ntmps19
  go_wp2_with fail
  go_loopw [5] (fun i wr => ∃ k : Nat, i = .int .i64 k ∧ k ≤ n ∧ Below w.heap.size w wr) (fun i _ => n - (intOf i).toNat)
  case atStart => exact ⟨0, rfl, Nat.zero_le _, Below.refl _ _⟩
  case round =>
    obtain ⟨k, rfl, hk, hbw⟩ := hrel
    by_cases hlt : k < n
    · have hkx : k < xs.length := by rw [HN.out]; exact hlt
      obtain ⟨b1, o1, cs1, rfl, h1, hc1⟩ := (HA.out.below arrRep hbw (Nat.le_refl _)) k hkx
      obtain ⟨b2, o2, cs2, rfl, h2, hc2⟩ := (HB.out.below arrRep hbw (Nat.le_refl _)) k hkx
      obtain ⟨s1, k1, d1, m1, rfl, i1, i2, l1, l2⟩ := arr_facts h1
      obtain ⟨s2, k2, d2, m2, rfl, i3, i4, -, -⟩ := arr_facts h2
      have x0 := hc1 0 _ rfl; have x1 := hc1 1 _ rfl; have y0 := hc2 0 _ rfl; have y1 := hc2 1 _ rfl
      simp only [show arrRep.n = 2 from rfl, Nat.add_zero] at x0 x1 y0 y1
      have hsm : ∀ p : BelowW wr, Calls Try.prog 45 #[.agg #[.slice s1 xs[k].1.length k1, .slice d1 xs[k].2.length m1], .agg #[.slice s2 xs[k].1.length k2, .slice d2 xs[k].2.length m2]] p.world fun e w' => e = .returned (.bool true) ∧ Below p.world.heap.size p.world w' := fun p => by
        have h := asame_any p.world s1 d1 s2 d2 k1 m1 k2 m2 xs[k].1 xs[k].2 xs[k].1 xs[k].2 l1 l2 l1 l2 (i1.below p.below (Nat.le_refl _)) (i2.below p.below (Nat.le_refl _)) (i3.below p.below (Nat.le_refl _)) (i4.below p.below (Nat.le_refl _))
        unfold ints at h
        simpa using h
      obtain ⟨n1, hn1⟩ : ∃ n, xs[k].1.length = n := ⟨_, rfl⟩
      obtain ⟨n2, hn2⟩ : ∃ n, xs[k].2.length = n := ⟨_, rfl⟩
      rw [hn1] at x0 y0; rw [hn2] at x1 y1; simp only [hn1, hn2] at hsm
      have f0 := cellBW x0; have f1 := cellBW x1; have g0 := cellBW y0; have g1 := cellBW y1
      have HSM := Lib.hid hsm; have HBW := Lib.hid hbw
      have hz0 : (0 : Int) ≤ (k : Int) := by omega
      have hz1 : (k : Int) < (n : Int) := by omega
      clear hsm hbw h1 h2 hc1 hc2 i1 i2 i3 i4 l1 l2 hn1 hn2 x0 x1 y0 y1 hkx
      go_upto_region 6 with fail
      refine wp_region_below (by kernel_rfl) (by kernel_rfl) ?_
      repeat (go_big_quiet_step (first | (go_at_call 45; refine callsBW (HSM.out _))))
      refine wpQuiet_nil ?_
      rintro wx ⟨⟨wq, hwq⟩, hx⟩
      obtain rfl : wx = wq := hx
      have HB2 := Lib.hid (bNext hwq HBW.out)
      clear f0 f1 g0 g1 hwq
      go_wp2_with fail
      go_roundw
      case rel => exact ⟨k + 1, by go_num, by omega, HB2.out⟩
      case measure => simp [intOf]; omega
    · have HB2 := Lib.hid hbw
      clear hbw
      go_wp2_with fail
      go_ret
      exact ⟨rfl, HB2.out⟩
end Go.Proofs.Ytmlfeocdcjhhaaa
