import Derived.Test.YtmlfeocdcjhhaaaPH35
import Derived.Test.YtmlfeocdcjhhaaaPH15
namespace Go.Proofs.Ytmlfeocdcjhhaaa
set_option maxRecDepth 100000
open Go.RowKit
set_option linter.unusedVariables false
set_option linter.unusedSimpArgs false
attribute [local go_sem ↓] Go.wp_at_zero Go.wp_at_succ

def N2 {α : Type} (r : Ex α) : Prop := ∀ e, r = .error e → e ≠ 122
theorem N2.ok {α : Type} (a : α) : N2 (.ok a : Ex α) := fun e h => by cases h
theorem N2.err {α : Type} {e : Int} (h : e ≠ 122) : N2 (.error e : Ex α) := fun e' h' => by cases h'; exact h
theorem N2.bind {α β : Type} {r : Ex α} {f : α → Ex β} (h : N2 r) (hf : ∀ a, N2 (f a)) : N2 (r.bind f) := by
  cases r with
  | error e => exact fun e' h' => by cases h'; exact h e rfl
  | ok a => exact hf a
theorem N2.map {α β : Type} {r : Ex α} {f : α → β} (h : N2 r) : N2 (r.map f) := by
  cases r with
  | error e => exact fun e' h' => by cases h'; exact h e rfl
  | ok a => exact N2.ok _
theorem N2.ite {α : Type} {c : Prop} [Decidable c] {a b : Ex α} (ha : N2 a) (hb : N2 b) : N2 (if c then a else b) := by split <;> assumption
theorem val_n2 (D : List Int) (p : List Mono) : N2 (valR D p 121) := by unfold valR; exact N2.ite (N2.ok _) (N2.err (by decide))
theorem must_n2 {r : Int × Int} (h : r.2 ≠ 122) : N2 (mustR r) := by
  unfold mustR
  split
  · exact N2.ok _
  · exact N2.err h
theorem dyad_n2 (f a b : Int) : (dyadF f a b).2 ≠ 122 := by
  unfold dyadF
  split
  · split <;> (dsimp only; decide)
  · dsimp only; decide
theorem monad_n2 (f a : Int) : (monadF f a).2 ≠ 122 := by
  unfold monadF
  repeat' split
  all_goals first
    | exact dyad_n2 _ _ _
    | (dsimp only; decide)
theorem op_n2 (D : List Int) (mem : List (List Int)) (ix : List Int) (o : Cop) (s : List Int) : N2 (opM D mem ix o s) := by
  unfold opM
  refine N2.ite (N2.ok _) (N2.ite (N2.map (val_n2 _ _)) (N2.ite (N2.ok _) (N2.ite ?_ (N2.ite ?_ (N2.ite ?_ (N2.ok _))))))
  · split
    · exact N2.map (by unfold cellR; exact N2.ite (N2.err (by decide)) (N2.ok _))
    · exact N2.ok _
  · split
    · exact N2.map (must_n2 (monad_n2 _ _))
    · exact N2.ok _
  · split
    · exact N2.map (must_n2 (dyad_n2 _ _ _))
    · exact N2.ok _
theorem runM_n2 (D : List Int) (mem : List (List Int)) (ix : List Int) : ∀ (l : List Cop) (s : List Int), N2 (runM D mem ix l s)
  | [], s => N2.ok _
  | o :: l, s => by rw [runM]; exact N2.bind (op_n2 _ _ _ _ _) (fun s' => runM_n2 D mem ix l s')
theorem ops_n2 (D : List Int) (mem : List (List Int)) (ix : List Int) (l : List Cop) : N2 (opsM D mem ix l) := N2.map (runM_n2 _ _ _ _ _)
theorem fold_n2 (D : List Int) (mem : List (List Int)) (ix : List Int) (s : Stp) : ∀ k : Nat, N2 (foldR D mem ix s k)
  | 0 => N2.ok _
  | k + 1 => by rw [foldR]; exact N2.bind (fold_n2 D mem ix s k) (fun v => N2.bind (ops_n2 _ _ _ _) (fun x => N2.ite (N2.ok _) (must_n2 (dyad_n2 _ _ _))))
theorem put_n2 (D : List Int) (s : Stp) (mem : List (List Int)) (n : Nat) (v : Int) : N2 (putR D s mem n v) := by
  unfold putR
  exact N2.bind (val_n2 _ _) (fun t => N2.ite (N2.err (by decide)) (N2.ok _))
theorem turn_n2 (D : List Int) (s : Stp) (l1 : Int) (st : List (List Int) × Nat × Int) (ix : List Int) : N2 (turnR D s l1 st ix) := by
  unfold turnR
  refine N2.ite (N2.bind (fold_n2 _ _ _ _ _) (fun v => N2.map (put_n2 _ _ _ _ _))) (N2.bind (ops_n2 _ _ _ _) (fun v => N2.bind (N2.ite (must_n2 (dyad_n2 _ _ _)) (N2.ok _)) (fun v => N2.map (put_n2 _ _ _ _ _))))
theorem turns_n2 (D : List Int) (s : Stp) (l1 : Int) : ∀ (l : List (List Int)) (st : List (List Int) × Nat × Int), N2 (turnsR D s l1 l st)
  | [], st => N2.ok _
  | ix :: r, st => by rw [turnsR]; exact N2.bind (turn_n2 _ _ _ _ _) (fun st' => turns_n2 D s l1 r st')
theorem load_n2 (D : List Int) (ins : List Ary) : ∀ (bufs : List Buf) (mem : List (List Int)), N2 (loadR D ins bufs mem)
  | [], mem => N2.ok _
  | b :: r, mem => by rw [loadR]; exact N2.ite (load_n2 D ins r _) (N2.ite (load_n2 D ins r _) (N2.err (by decide)))
theorem sum_n2 (D : List Int) : ∀ (bufs : List Buf) (all : Int), (sumS D bufs all).2 ≠ 122
  | [], all => by rw [sumS]; dsimp only; decide
  | b :: r, all => by
    rw [sumS]
    split
    · dsimp only; decide
    · exact sum_n2 D r _
theorem cells_n2 (c : Cor) (D : List Int) : (cellsS c D).2 ≠ 122 := by
  unfold cellsS
  split
  · split
    · exact sum_n2 _ _ _
    · dsimp only; decide
  · dsimp only; decide
/-- a polynomial that is a number; none, if that is 0 -/
def monoQ (n : Nat) : Mono := ⟨n, 0, 0, 0, 0, 0, 0⟩
def polyQ (n : Nat) : List Mono := if n = 0 then [] else [monoQ n]
/-- the law's core -/
def meanC (many len : Nat) (l : List Cop) : Cor := ⟨0, [⟨[polyQ len], 0⟩, ⟨[polyQ many], -1⟩], [⟨1, 1, [], [polyQ many], 0, l⟩], [1]⟩
theorem mean_core (many len : Nat) (l : List Cop) : coreC (meanC many len l) = meanC many len (simpleC l) := rfl
theorem val_polyQ {n : Nat} (hn : n ≤ 50) (h : growsB (polyQ n) = true) (e : Int) : valR [] (polyQ n) e = .ok n := by
  have hD : dimsB [] = true := rfl
  unfold polyQ at h ⊢
  split
  · rename_i h0
    rw [h0]
    exact valR_nil hD e
  · rename_i h0
    rw [if_neg h0] at h
    unfold growsB at h
    rw [Bool.and_eq_true] at h
    exact valR_flat hD (m := monoQ n) rfl h.1 (by unfold monoQ; dsimp only; omega) e
theorem mean_n2 {many len : Nat} (hm : many ≤ 50) (l : List Cop) (ins : List Ary) : (runR (meanC many len l) [] ins).2.2 ≠ 122 := by
  by_cases hc : (cellsS (meanC many len l) []).2 ≠ 0
  · rw [run_cells hc]; exact cells_n2 _ _
  by_cases hmo : (ins.length : Int) ≠ mostR (meanC many len l).bufs
  · rw [run_many hc hmo]; dsimp only; decide
  cases hl : loadR [] ins (meanC many len l).bufs [] with
  | error e => rw [run_load hc hmo hl]; exact load_n2 _ _ _ _ e hl
  | ok mem =>
    cases hs : stepsR [] (meanC many len l).steps 0 (mem, 0) with
    | inl st => rw [run_good hc hmo hl hs]; dsimp only; decide
    | inr q =>
      obtain ⟨j, e⟩ := q
      rw [run_step hc hmo hl hs]
      dsimp only
      obtain ⟨hr, -, -⟩ := cells_dims (c := meanC many len l) (D := []) (by simpa using hc)
      have hf := right_stps hr ⟨1, 1, [], [polyQ many], 0, l⟩ (List.mem_singleton.2 rfl)
      have hv := val_polyQ hm (hf.lgrows _ (List.mem_singleton.2 rfl)) 122
      have hops := hf.opsl
      dsimp only at hops
      have hcn : ∃ N, countR [] false [polyQ many] (l.length : Int) = .ok ([(many : Int)], N) ∧ N ≤ 2097152 := by
        rw [countR, hv]
        refine ⟨min ((if (many : Int) = 0 then 0 else (l.length : Int)) * many) 4194304, ?_, ?_⟩
        · show (if 65536 < (many : Int) then _ else _) = _
          rw [if_neg (by omega)]
          rfl
        · have h1 : (if (many : Int) = 0 then 0 else (l.length : Int)) ≤ 256 := by split <;> omega
          have h2 : (if (many : Int) = 0 then 0 else (l.length : Int)) * many ≤ 256 * 50 := Int.mul_le_mul h1 (by omega) (by omega) (by decide)
          omega
      obtain ⟨N, hN, hNb⟩ := hcn
      have hst : N2 (stepR [] ⟨1, 1, [], [polyQ many], 0, l⟩ (mem, 0)) := by
        unfold stepR
        rw [show (((⟨1, 1, [], [polyQ many], 0, l⟩ : Stp).how == 2) = false) from rfl, hN]
        show N2 (if 2097152 < 0 + N then _ else _)
        rw [if_neg (by omega)]
        exact N2.map (turns_n2 _ _ _ _ _)
      change stepsR [] [⟨1, 1, [], [polyQ many], 0, l⟩] 0 (mem, 0) = _ at hs
      rw [stepsR] at hs
      cases hx : stepR [] ⟨1, 1, [], [polyQ many], 0, l⟩ (mem, 0) with
      | error e' =>
        rw [hx] at hs
        cases hs
        exact hst _ hx
      | ok st' => rw [hx] at hs; cases hs
/-- what is simplified leaves what it left -/
theorem mean_law {many len : Nat} (hm : many ≤ 50) {l : List Cop} (hn : ∀ o ∈ l, I64 o.n) {ins : List Ary} (hi : ∀ a ∈ ins, ∀ x ∈ a.2, In64 x) (h : (runR (meanC many len l) [] ins).2.2 ≠ 100) : runR (meanC many len (simpleC l)) [] ins = runR (meanC many len l) [] ins := by
  cases hr : rightB (meanC many len l) with
  | true =>
    have := (run_simple (D := []) (ins := ins) hr (fun s hs o ho => by cases List.mem_singleton.1 hs; exact hn o ho) hi).2 (mean_n2 hm l ins)
    rwa [mean_core] at this
  | false =>
    exfalso
    apply h
    have hc : cellsS (meanC many len l) [] = (0, 100) := by unfold cellsS; rw [hr]; rfl
    rw [run_cells (by rw [hc]; decide), hc]
theorem heap_sl {α : Type} {R : Rep α} {W : World} {G n : Nat} {cs : Array Value} {t : TypeId} (hG : W.heap[G]? = some (.cells cs t (0, 0))) {xs : List α} (hc : R.Cs W cs.toList xs) (hs : cs.size = n * R.n) (hn : n = xs.length) (hm : n ≤ maxLen) : R.Sl W (.slice (some ⟨G, 0, none⟩) n n) xs :=
  (Own_sl (b0 0) (Nat.le_refl 0) (own_row (B := 0) (Nat.zero_le _) hG hs hm) hc hn).1
theorem mono_sl {W : World} {G n : Nat} (hG : W.heap[G]? = some (.cells #[.int .i64 n, .int .u8 0, .int .u8 0, .int .u8 0, .int .u8 0, .int .u8 0, .int .u8 0] 47 (0, 0))) (hn : n ≤ 9223372036854775807) : monoRep.Sl W (.slice (some ⟨G, 0, none⟩) 1 1) [monoQ n] :=
  heap_sl hG (Rep.Cs.single (R := monoRep) ⟨rfl, ⟨by show -9223372036854775808 ≤ (n : Int) ∧ (n : Int) ≤ 9223372036854775807; omega, by show (0 : Int) ≤ 0 ∧ (0 : Int) ≤ 255; decide, by show (0 : Int) ≤ 0 ∧ (0 : Int) ≤ 255; decide, by show (0 : Int) ≤ 0 ∧ (0 : Int) ≤ 255; decide, by show (0 : Int) ≤ 0 ∧ (0 : Int) ≤ 255; decide, by show (0 : Int) ≤ 0 ∧ (0 : Int) ≤ 255; decide, by show (0 : Int) ≤ 0 ∧ (0 : Int) ≤ 255; decide⟩⟩) rfl rfl (by unfold maxLen; omega)
theorem poly_sl {W : World} {G : Nat} {v : Value} {p : List Mono} (hG : W.heap[G]? = some (.cells #[v] 38 (0, 0))) (hp : monoRep.Sl W v p) : polyRep.Sl W (.slice (some ⟨G, 0, none⟩) 1 1) [p] :=
  heap_sl hG (Rep.Cs.single (R := polyRep) ⟨v, rfl, hp⟩) rfl rfl (by unfold maxLen; omega)
theorem mean_cor {W : World} {va vb v0 : Value} {m n : Nat} {l : List Cop} {p1 p2 bf ou p3 st : Nat} (h1 : W.heap[p1]? = some (.cells #[vb] 38 (0, 0))) (h2 : W.heap[p2]? = some (.cells #[va] 38 (0, 0)))
    (hb : W.heap[bf]? = some (.cells #[.slice (some ⟨p1, 0, none⟩) 1 1, .int .i64 0, .slice (some ⟨p2, 0, none⟩) 1 1, .int .i64 (-1)] 52 (0, 0))) (ho : W.heap[ou]? = some (.cells #[.int .i64 1] 3 (0, 0))) (h3 : W.heap[p3]? = some (.cells #[va] 38 (0, 0)))
    (hs : W.heap[st]? = some (.cells #[.int .i64 1, .int .i64 1, .slice none 0 0, .slice (some ⟨p3, 0, none⟩) 1 1, .int .u8 0, v0] 42 (0, 0))) (ha : monoRep.Sl W va (polyQ m)) (hz : monoRep.Sl W vb (polyQ n)) (hl : copRep.Sl W v0 l) :
    CorAt W (.slice (some ⟨bf, 0, none⟩) 2 2) (.slice (some ⟨st, 0, none⟩) 1 1) (.slice (some ⟨ou, 0, none⟩) 1 1) (meanC m n l) := by
  have i0 : I64 0 := by unfold I64; decide
  have i1 : I64 1 := by unfold I64; decide
  have im : I64 (-1) := by unfold I64; decide
  have u0 : U8 0 := by unfold U8; decide
  refine ⟨heap_sl hb (R := bufRep) ⟨[.slice (some ⟨p1, 0, none⟩) 1 1, .int .i64 0], [.slice (some ⟨p2, 0, none⟩) 1 1, .int .i64 (-1)], rfl, ⟨_, rfl, poly_sl h1 hz, show I64 0 from i0⟩, Rep.Cs.single (R := bufRep) ⟨_, rfl, poly_sl h2 ha, show I64 (-1) from im⟩⟩ rfl rfl (by unfold maxLen; omega),
    heap_sl hs (Rep.Cs.single (R := stpRep) ⟨_, _, _, rfl, Rep.Sl.nil _ _, poly_sl h3 ha, hl, show I64 1 from i1, show I64 1 from i1, show U8 0 from u0⟩) rfl rfl (by unfold maxLen; omega),
    heap_sl ho (Rep.Cs.single (R := Rep.int .i64) ⟨rfl, by decide⟩) rfl rfl (by unfold maxLen; omega), i0⟩
theorem mean_ins {W : World} {vd : Value} {n : Nat} {data : List Int} {a1 a2 : Nat} (h1 : W.heap[a1]? = some (.cells #[.int .i64 n] 2 (0, 0))) (h2 : W.heap[a2]? = some (.cells #[.slice (some ⟨a1, 0, none⟩) 1 1, vd] 54 (0, 0))) (hd : (Rep.int .i64).Sl W vd data) (hn : n ≤ 9223372036854775807) :
    arrRep.Sl W (.slice (some ⟨a2, 0, none⟩) 1 1) [([(n : Int)], data)] :=
  heap_sl h2 (Rep.Cs.single (R := arrRep) ⟨_, _, rfl, heap_sl h1 (Rep.Cs.single (R := Rep.int .i64) ⟨rfl, by simp [Lit.wf, IntKind.min, IntKind.max, IntKind.signed, IntKind.bits]; omega⟩) rfl rfl (by unfold maxLen; omega), hd⟩) rfl rfl (by unfold maxLen; omega)
theorem alloc2 (W : World) {y : Nat} (hy : W.heap.size = y) (o1 o2 : Obj) : Below W.heap.size W ((W.alloc o1).alloc o2) ∧ ((W.alloc o1).alloc o2).heap[y]? = some o1 ∧ ((W.alloc o1).alloc o2).heap[y + 1]? = some o2 ∧ ((W.alloc o1).alloc o2).heap.size = y + 1 + 1 := by
  have s1 : (W.alloc o1).heap.size = y + 1 := by simp [hy]
  exact ⟨((Below.refl _ _).alloc (Nat.le_refl _) _).alloc (by omega) _, block_alloc (heap_new hy) _, heap_new s1, by simp [hy]⟩
theorem alloc5 (W : World) {y : Nat} (hy : W.heap.size = y) (o1 o2 o3 o4 o5 : Obj) : Below W.heap.size W (((((W.alloc o1).alloc o2).alloc o3).alloc o4).alloc o5) ∧ (((((W.alloc o1).alloc o2).alloc o3).alloc o4).alloc o5).heap[y]? = some o1 ∧ (((((W.alloc o1).alloc o2).alloc o3).alloc o4).alloc o5).heap[y + 1]? = some o2 ∧
    (((((W.alloc o1).alloc o2).alloc o3).alloc o4).alloc o5).heap[y + 1 + 1]? = some o3 ∧ (((((W.alloc o1).alloc o2).alloc o3).alloc o4).alloc o5).heap[y + 1 + 1 + 1]? = some o4 ∧ (((((W.alloc o1).alloc o2).alloc o3).alloc o4).alloc o5).heap[y + 1 + 1 + 1 + 1]? = some o5 := by
  obtain ⟨b2, h1, h2, s2⟩ := alloc2 W hy o1 o2
  obtain ⟨b4, h3, h4, s4⟩ := alloc2 _ s2 o3 o4
  have hb : Below W.heap.size W (((((W.alloc o1).alloc o2).alloc o3).alloc o4).alloc o5) := (b2.trans (b4.mono b2.size)).alloc (Nat.le_trans b2.size b4.size) _
  exact ⟨hb, block_alloc (block_below h1 b4) _, block_alloc (block_below h2 b4) _, block_alloc h3 _, block_alloc h4 _, heap_new s4⟩
/-- the core in its box, and what it is made of -/
structure MeanI (w W U : World) (va vb : Value) (p1 p2 bf ou cb : Nat) : Prop where
  hw : Below w.heap.size w W
  bW : Below W.heap.size W U
  cbW : W.heap.size ≤ cb
  g1 : U.heap[p1]? = some (.cells #[vb] 38 (0, 0))
  g2 : U.heap[p2]? = some (.cells #[va] 38 (0, 0))
  g3 : U.heap[bf]? = some (.cells #[.slice (some ⟨p1, 0, none⟩) 1 1, .int .i64 0, .slice (some ⟨p2, 0, none⟩) 1 1, .int .i64 (-1)] 52 (0, 0))
  g4 : U.heap[ou]? = some (.cells #[.int .i64 1] 3 (0, 0))
  box : ∃ vst, U.heap[cb]? = some (.cells #[.int .i64 0, .slice (some ⟨bf, 0, none⟩) 2 2, vst, .slice (some ⟨ou, 0, none⟩) 1 1] 33 (0, 0))
section
variable {w W U U' : World} {va vb : Value} {p1 p2 bf ou cb : Nat}
theorem MeanI.below (h : MeanI w W U va vb p1 p2 bf ou cb) : Below w.heap.size w U := bNext h.bW h.hw
theorem MeanI.next (h : MeanI w W U va vb p1 p2 bf ou cb) (hb : Below U.heap.size U U') : MeanI w W U' va vb p1 p2 bf ou cb := by
  obtain ⟨vst, hv⟩ := h.box
  exact ⟨h.hw, bNext hb h.bW, h.cbW, block_below h.g1 hb, block_below h.g2 hb, block_below h.g3 hb, block_below h.g4 hb, ⟨vst, block_below hv hb⟩⟩
theorem MeanI.keep (h : MeanI w W U va vb p1 p2 bf ou cb) (u : Value) {t : TypeId} (ht : t ≠ 33) : KeepTy t U (U.setCell ⟨cb, 2, none⟩ u) := by
  obtain ⟨vst, hv⟩ := h.box
  exact KeepTy.setCell (p := ⟨cb, 2, none⟩) (NotTy.of hv (Ne.symm ht)) _
theorem MeanI.set (h : MeanI w W U va vb p1 p2 bf ou cb) (u : Value) : MeanI w W (U.setCell ⟨cb, 2, none⟩ u) va vb p1 p2 bf ou cb ∧ (U.setCell ⟨cb, 2, none⟩ u).heap[cb]? = some (.cells #[.int .i64 0, .slice (some ⟨bf, 0, none⟩) 2 2, u, .slice (some ⟨ou, 0, none⟩) 1 1] 33 (0, 0)) := by
  obtain ⟨vst, hv⟩ := id h.box
  have hc : (U.setCell ⟨cb, 2, none⟩ u).heap[cb]? = some (.cells #[.int .i64 0, .slice (some ⟨bf, 0, none⟩) 2 2, u, .slice (some ⟨ou, 0, none⟩) 1 1] 33 (0, 0)) := by rw [heap_setCell_same U cb 2 _ _ _ hv]; rfl
  exact ⟨⟨h.hw, h.bW.setCell (p := ⟨cb, 2, none⟩) h.cbW _, h.cbW, h.keep u (by decide) _ _ h.g1, h.keep u (by decide) _ _ h.g2, h.keep u (by decide) _ _ h.g3, h.keep u (by decide) _ _ h.g4, ⟨u, hc⟩⟩, hc⟩
/-- other steps -/
theorem MeanI.step (h : MeanI w W U va vb p1 p2 bf ou cb) {y : Nat} (hy : U.heap.size = y) (vx : Value) {V : World}
    (hV : V = ((U.setCell ⟨cb, 2, none⟩ (.slice (some ⟨y + 1, 0, none⟩) 1 1)).alloc (.cells #[va] 38)).alloc (.cells #[.int .i64 1, .int .i64 1, .slice none 0 0, .slice (some ⟨y, 0, none⟩) 1 1, .int .u8 0, vx] 42)) :
    MeanI w W V va vb p1 p2 bf ou cb ∧ V.heap[cb]? = some (.cells #[.int .i64 0, .slice (some ⟨bf, 0, none⟩) 2 2, .slice (some ⟨y + 1, 0, none⟩) 1 1, .slice (some ⟨ou, 0, none⟩) 1 1] 33 (0, 0)) ∧ V.heap[y]? = some (.cells #[va] 38 (0, 0)) ∧
      V.heap[y + 1]? = some (.cells #[.int .i64 1, .int .i64 1, .slice none 0 0, .slice (some ⟨y, 0, none⟩) 1 1, .int .u8 0, vx] 42 (0, 0)) ∧ ∀ t, t ≠ 33 → KeepTy t U V := by
  obtain ⟨h1, hc⟩ := h.set (.slice (some ⟨y + 1, 0, none⟩) 1 1)
  obtain ⟨hb, g6, g7, -⟩ := alloc2 (U.setCell ⟨cb, 2, none⟩ (.slice (some ⟨y + 1, 0, none⟩) 1 1)) (y := y) (by simpa using hy) (.cells #[va] 38) (.cells #[.int .i64 1, .int .i64 1, .slice none 0 0, .slice (some ⟨y, 0, none⟩) 1 1, .int .u8 0, vx] 42)
  subst hV
  exact ⟨h1.next hb, block_below hc hb, g6, g7, fun t ht => (h.keep _ ht).trans (KeepTy.below hb)⟩
theorem MeanI.cor {m n : Nat} {l : List Cop} {p3 st : Nat} {vx : Value} (h : MeanI w W U va vb p1 p2 bf ou cb) (h3 : U.heap[p3]? = some (.cells #[va] 38 (0, 0)))
    (hs : U.heap[st]? = some (.cells #[.int .i64 1, .int .i64 1, .slice none 0 0, .slice (some ⟨p3, 0, none⟩) 1 1, .int .u8 0, vx] 42 (0, 0))) (ha : monoRep.Sl W va (polyQ m)) (hz : monoRep.Sl W vb (polyQ n)) (hl : copRep.Sl U vx l) :
    CorAt U (.slice (some ⟨bf, 0, none⟩) 2 2) (.slice (some ⟨st, 0, none⟩) 1 1) (.slice (some ⟨ou, 0, none⟩) 1 1) (meanC m n l) :=
  mean_cor h.g1 h.g2 h.g3 h.g4 h3 hs (ha.below _ h.bW (Nat.le_refl _)) (hz.below _ h.bW (Nat.le_refl _)) hl
end
/-- a run of the law's core -/
theorem mean_run {U : World} {m n : Nat} {l : List Cop} {bf st ou a2 : Nat} {data : List Int} (hc : CorAt U (.slice (some ⟨bf, 0, none⟩) 2 2) (.slice (some ⟨st, 0, none⟩) 1 1) (.slice (some ⟨ou, 0, none⟩) 1 1) (meanC m n l)) (hi : arrRep.Sl U (.slice (some ⟨a2, 0, none⟩) 1 1) [([(n : Int)], data)]) :
    Calls Try.prog 18 #[.agg #[.int .i64 0, .slice (some ⟨bf, 0, none⟩) 2 2, .slice (some ⟨st, 0, none⟩) 1 1, .slice (some ⟨ou, 0, none⟩) 1 1], .slice none 0 0, .slice (some ⟨a2, 0, none⟩) 1 1] U (RunG U (runR (meanC m n l) [] [([(n : Int)], data)])) := by
  obtain ⟨ia, ic, e, -, -, -, he⟩ := hi
  cases e
  exact run_row U (meanC m n l) (some ⟨bf, 0, none⟩) (some ⟨st, 0, none⟩) (some ⟨ou, 0, none⟩) 2 1 1 hc none 0 [] (IntsAt.nil _ _ _) (by simp) (some ⟨a2, 0, none⟩) 1 [([(n : Int)], data)] he (by simp [maxLen])
theorem rowG_turn {B : Bd} {M : Nat} {U U' : World} {v : Value} {xs : List Ary} (h : RowG (arrO B) M 54 U v xs) (hk : ∀ t, t ≠ 33 → KeepTy t U U') : RowG (arrO B) M 54 U' v xs :=
  h.turn (B := B) (fun cs x hx => by
    obtain ⟨v, u, e, g1, g2, g3⟩ := hx
    exact ⟨v, u, e, own_keep g1 (hk _ (by decide)), own_keep g2 (hk _ (by decide)), g3⟩) (hk _ (by decide))
end Go.Proofs.Ytmlfeocdcjhhaaa
