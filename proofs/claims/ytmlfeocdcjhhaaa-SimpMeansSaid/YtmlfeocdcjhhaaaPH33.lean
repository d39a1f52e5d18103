import Derived.Test.YtmlfeocdcjhhaaaPH31
import Derived.Test.YtmlfeocdcjhhaaaPH32
namespace Go.Proofs.Ytmlfeocdcjhhaaa
set_option maxRecDepth 100000
open Go.RowKit Go.Deep
set_option linter.unusedVariables false
set_option linter.unusedSimpArgs false
attribute [local go_sem ↓] Go.wp_at_zero Go.wp_at_succ

/-- an array, as two cells -/
def arrRep : Rep Ary where
  n := 2
  At w cs a := ∃ v u, cs = [v, u] ∧ (Rep.int .i64).Sl w v a.1 ∧ (Rep.int .i64).Sl w u a.2
  len := by rintro w cs a ⟨v, u, rfl, _⟩; rfl
  keep := by rintro w w' cs a ⟨v, u, e, h, h2⟩ hb; exact ⟨v, u, e, h.below _ hb (Nat.le_refl _), h2.below _ hb (Nat.le_refl _)⟩
  one := by
    rintro w cs a ⟨v, u, rfl, h, h2⟩ x hx
    obtain ⟨a, c, rfl⟩ := h.form0
    obtain ⟨a, c, rfl⟩ := h2.form0
    simp at hx
    rcases hx with rfl | rfl <;> rfl
theorem opens_i64s : Opens 50 (Rep.int .i64).slice := opens_slice Try.underlying50 (by kernel_rfl) (by rw [show Try.prog.cellsOf 2 = 1 from by kernel_rfl]; decide) (opens_int Try.underlying2 (by kernel_rfl))
theorem opens_ary : Opens 54 arrRep := ⟨by kernel_rfl, fun {H enc w base spare held m cs y} h => by
  obtain ⟨ys, n, _, _, hlen, hyl, hf⟩ := DataW.trod_struct Try.underlying54 h
  have hl : cs.length = 2 := hlen.trans (by kernel_rfl)
  match cs, hl with
  | [c0, c1], _ =>
    obtain ⟨x0, e0⟩ := field_of opens_i64s ((hf 0 _ rfl).trans (List.getElem?_eq_getElem (by rw [hyl]; decide)))
    obtain ⟨x1, e1⟩ := field_of opens_i64s ((hf 1 _ rfl).trans (List.getElem?_eq_getElem (by rw [hyl]; decide)))
    obtain ⟨v, e0, h0⟩ := e0
    obtain ⟨u, e1, h1⟩ := e1
    have f0 : [c0] = [v] := e0
    have f1 : [c1] = [u] := e1
    cases f0; cases f1
    exact ⟨(x0, x1), c0, c1, rfl, h0, h1⟩⟩
theorem opens_arys : Opens 55 arrRep.slice := opens_slice Try.underlying55 (by kernel_rfl) (by rw [show Try.prog.cellsOf 54 = 2 from by kernel_rfl]; decide) opens_ary
theorem int_in {w : World} {v : Value} {xs : List Int} (h : (Rep.int .i64).Sl w v xs) : ∀ x ∈ xs, In64 x := fun x hx => by
  obtain ⟨a, c, e, _, _, _, he⟩ := h
  obtain ⟨i, hi, rfl⟩ := List.getElem_of_mem hx
  obtain ⟨b, off, cs, e2, ⟨rfl, hw⟩, hc⟩ := he i hi
  exact bounds_i64 hw
theorem vals_some {D : List Int} : ∀ (sides : List (List Mono)) (l l' : List Int), valsO D sides l = some l' → l' = l ++ sides.map (fun p => (evalS p D).1) ∧ ∀ p ∈ sides, (evalS p D).2 = 0
  | [], l, l', h => by cases h; simp
  | p :: r, l, l', h => by
    rw [valsO] at h
    unfold sideO at h
    by_cases hc : (evalS p D).2 = 0 ∧ 0 ≤ (evalS p D).1 ∧ (evalS p D).1 ≤ 65536
    · rw [if_pos hc] at h
      obtain ⟨h1, h2⟩ := vals_some r _ _ h
      refine ⟨by rw [h1]; simp, fun x hx => ?_⟩
      rcases List.mem_cons.1 hx with e | e
      · subst e; exact hc.1
      · exact h2 x e
    · rw [if_neg hc] at h
      cases h
theorem prod_to : ∀ (l : List Int) (a v : Int), prodO l a = some v → prodTo a l = (v, 0)
  | [], a, v, h => by cases h; rfl
  | n :: r, a, v, h => by
    rw [prodO] at h
    rw [prodTo]
    split at h
    · cases h
    · rename_i hn
      rw [if_neg hn]
      exact prod_to r _ _ h
theorem size_sides {D : List Int} {b : Buf} (hl : b.sides.length ≤ 4) (h : (sizeS D b.sides).2 = true) : size (sidesR D b) = ((sizeS D b.sides).1, 0) ∧ ∀ p ∈ b.sides, (evalS p D).2 = 0 := by
  unfold sizeS at h ⊢
  cases hv : valsO D b.sides [] with
  | none => rw [hv] at h; cases h
  | some l =>
    rw [hv] at h
    have hbd := vals_bd _ _ _ hv (fun x hx => by cases hx)
    obtain ⟨h1, h2⟩ := vals_some _ _ _ hv
    rw [List.nil_append] at h1
    have hls : sidesR D b = l := by rw [h1]; rfl
    refine ⟨?_, h2⟩
    rw [hls]
    have hll : l.length ≤ 4 := by rw [h1, List.length_map]; exact hl
    have hnb : l.any badSide = false := by
      rw [List.any_eq_false]
      intro x hx
      have := hbd x hx
      unfold badSide
      simp
      omega
    unfold size
    rw [if_neg (by omega), hnb, if_neg (by decide)]
    have hz : (l.any fun x => x == 0) = l.any ((0 : Int) == ·) := by
      congr 1
      funext x
      exact Bool.eq_iff_iff.2 (by simp; omega)
    dsimp only at h ⊢
    unfold sizeP at h ⊢
    rw [hz] at h ⊢
    split
    · rfl
    · rename_i h0
      rw [if_neg h0] at h
      cases hp : prodO l 1 with
      | none => rw [hp] at h; cases h
      | some v => rw [prod_to _ _ _ hp]; rfl
/-- load, so far -/
structure LoadI (w : World) (M : Nat) (q : MQ) (D : List Int) (k : Nat) (vals : List Value) (mem : List (List Int)) (W : World) : Prop where
  row : W.heap[M]? = some (.cells (q.row D (.slice none 0 0)) 82 (0, 0))
  rows : MemAt (memOwn q vals) W q.ma q.ml q.mc vals mem
  new : ∀ g, memOwn q vals g → w.heap.size ≤ g ∧ g < W.heap.size
  memI : MemI mem
  len : mem.length = k
  sep : ∀ (i j : Nat) (v u : Value) (g : Nat), i ≠ j → vals[i]? = some v → vals[j]? = some u → v.ownBlock = some g → u.ownBlock ≠ some g
  kb : KB (fun g => g = M) w W
section
variable {w : World} {M : Nat} {q : MQ} {D : List Int} {k : Nat} {vals : List Value} {mem : List (List Int)} {W W1 W2 : World}
theorem LoadI.start (hr : w.heap[M]? = some (.cells (q.row D (.slice none 0 0)) 82 (0, 0))) (ha : q.ma = none) (hl : q.ml = 0) (hc : q.mc = 0) : LoadI w M q D 0 [] [] w := by
  refine ⟨hr, ⟨?_, fun g hg => .inl hg, fun k hk => absurd hk (Nat.not_lt_zero _)⟩, fun g hg => ?_, fun l hl => (by cases hl), rfl, fun i j v u g _ hi => (by cases hi), KB.refl _ _⟩
  · rw [ha, hl, hc]; exact World.ownsRow_nil _ _ _ _
  · unfold memOwn at hg
    rw [ha] at hg
    rcases hg with h | ⟨v, h, _⟩
    · cases h
    · cases h
theorem LoadI.out (h : LoadI w M q D k vals mem W) (hb : Below W.heap.size W W1) : LoadI w M q D k vals mem W1 :=
  ⟨block_below h.row hb, h.rows.out hb, fun g hg => ⟨(h.new g hg).1, Nat.lt_of_lt_of_le (h.new g hg).2 hb.size⟩, h.memI, h.len, h.sep, h.kb.out hb⟩
/-- a row more -/
theorem LoadI.push (h : LoadI w M q D k vals mem W) (hM : M < w.heap.size) {rv : Value} {row : List Int} {B : Nat} (hB : W.heap.size ≤ B) (hb1 : Below W.heap.size W W1) (hr : RowI B W1 rv row) (hr64 : ∀ x ∈ row, In64 x) {a' : Option Addr} {c' : Nat}
    (ho : W2.ownsRow 0 50 1 (.slice a' (k + 1) c') (k + 1) (vals ++ [rv])) (hg : W1.grownBy W2 (Value.slice q.ma q.ml q.mc).ownBlock) (hn : Newer W1 (.slice q.ma q.ml q.mc) (.slice a' (k + 1) c')) :
    LoadI w M { q with ma := a', ml := k + 1, mc := c' } D (k + 1) (vals ++ [rv]) (mem ++ [row]) (W2.setCell ⟨M, 5, none⟩ (.slice a' (k + 1) c')) := by
  have h1 := h.out hb1
  have hvl : vals.length = mem.length := by have := h1.rows.hdr.1; omega
  have hbl : ∀ g, (Value.slice q.ma q.ml q.mc).ownBlock = some g → w.heap.size ≤ g := fun g e => (h1.new g (.inl e)).1
  have hM1 : M < W1.heap.size := block_lt h1.row
  have hr2 : W2.heap[M]? = some (.cells (q.row D (.slice none 0 0)) 82 (0, 0)) := block_grown h1.row hg (fun e => by have := hbl M e; omega)
  have hrl := fun g (e : rv.ownBlock = some g) => World.ownsRow.lt hr g e
  have hold : ∀ g, memOwn q vals g → g < W.heap.size := fun g e => (h.new g e).2
  have hk2 : KeepTy 2 W1 W2 := KeepTy.grown hg fun g e => by
    obtain ⟨cur, hc⟩ := own_typed h1.rows.hdr e
    exact NotTy.of hc (by decide)
  have hk3 : ∀ {t : TypeId}, 82 ≠ t → KeepTy t W2 (W2.setCell ⟨M, 5, none⟩ (.slice a' (k + 1) c')) := fun hne => KeepTy.setCell (p := ⟨M, 5, none⟩) (NotTy.of hr2 hne) _
  have hhd : ∀ g, (Value.slice a' (k + 1) c').ownBlock = some g → w.heap.size ≤ g ∧ g < W2.heap.size := fun g e => by
    refine ⟨?_, (World.ownsRow.lt ho g e).2⟩
    rcases hn with e2 | ⟨k2, e2, e3⟩
    · exact hbl g (by rw [← e2]; exact e)
    · rw [e] at e2
      injection e2 with e2
      have := h1.kb.size
      omega
  have hin : ∀ v ∈ vals ++ [rv], ∀ g, v.ownBlock = some g → w.heap.size ≤ g ∧ g < W1.heap.size := fun v hv g e => by
    rcases List.mem_append.1 hv with hv | hv
    · exact h1.new g (.inr ⟨v, hv, e⟩)
    · cases List.mem_singleton.1 hv
      have := hrl g e
      have := h.kb.size
      omega
  refine ⟨?_, ⟨?_, fun g hg => .inl hg, fun j hj => ?_⟩, fun g hg2 => ?_, ?_, by rw [List.length_append, h.len]; rfl, ?_, ?_⟩
  · rw [heap_setCell_same W2 M 5 _ _ _ hr2]
    rfl
  · rw [List.length_append, h.len]
    exact own_keep ho (hk3 (by decide))
  · rw [List.length_append] at hj
    by_cases hjm : j < mem.length
    · obtain ⟨u, e, hru, _⟩ := h1.rows.row j hjm
      refine ⟨u, by rw [List.getElem?_append_left (by omega)]; exact e, ?_, fun g hg => .inr ⟨u, List.mem_append_left _ (List.mem_of_getElem? e), hg⟩⟩
      rw [List.getElem_append_left hjm]
      exact own_keep (own_keep hru hk2) (hk3 (by decide))
    · obtain rfl : j = mem.length := by simp at hj; omega
      refine ⟨rv, by rw [List.getElem?_append_right (by omega), hvl, Nat.sub_self]; rfl, ?_, fun g hg => .inr ⟨rv, by simp, hg⟩⟩
      rw [List.getElem_append_right (Nat.le_refl _)]
      simp only [Nat.sub_self, List.getElem_cons_zero]
      exact own_mono (own_keep (own_keep hr hk2) (hk3 (by decide))) (Nat.zero_le _)
  · show w.heap.size ≤ g ∧ g < (W2.setCell _ _).heap.size
    rw [show (W2.setCell ⟨M, 5, none⟩ (.slice a' (k + 1) c')).heap.size = W2.heap.size from by simp]
    rcases hg2 with e | ⟨v, hv, e⟩
    · exact hhd g e
    · have := hin v hv g e
      have := hg.size
      omega
  · intro l hl x hx
    rcases List.mem_append.1 hl with hl | hl
    · exact h.memI l hl x hx
    · cases List.mem_singleton.1 hl
      exact hr64 x hx
  · intro i j v u g hij hi hj hv hu
    have hcase : ∀ (i : Nat) (v : Value), (vals ++ [rv])[i]? = some v → (i < vals.length ∧ vals[i]? = some v) ∨ (i = vals.length ∧ v = rv) := fun i v hi => by
      by_cases hil : i < vals.length
      · rw [List.getElem?_append_left hil] at hi; exact .inl ⟨hil, hi⟩
      · rw [List.getElem?_append_right (by omega)] at hi
        have h0 : i - vals.length = 0 := by
          have := (List.getElem?_eq_some_iff.1 hi).1
          simp at this
          omega
        rw [h0] at hi
        simp at hi
        exact .inr ⟨by omega, hi.symm⟩
    rcases hcase i v hi with ⟨h1', h2⟩ | ⟨h1', h2⟩ <;> rcases hcase j u hj with ⟨h3, h4⟩ | ⟨h3, h4⟩
    · exact h.sep i j v u g hij h2 h4 hv hu
    · subst h4
      have := hold g (.inr ⟨v, List.mem_of_getElem? h2, hv⟩)
      have := hrl g hu
      omega
    · subst h2
      have := hold g (.inr ⟨u, List.mem_of_getElem? h4, hu⟩)
      have := hrl g hv
      omega
    · omega
  · refine KB.setCell (p := ⟨M, 5, none⟩) (h1.kb.grown hg (fun g e hl => ?_)) (fun _ => rfl) _
    have := hbl g e
    omega
end
end Go.Proofs.Ytmlfeocdcjhhaaa

namespace Go.Proofs.Ytmlfeocdcjhhaaa
set_option maxRecDepth 100000
open Go.RowKit Go.ChangeShapes Go.WideShapes Go.Deep
set_option linter.unusedVariables false
set_option linter.unusedSimpArgs false

def corRep : Rep Cor where
  n := 4
  At w cs c := ∃ vb vs vo, cs = [.int .i64 c.vars, vb, vs, vo] ∧ CorAt w vb vs vo c
  len := by rintro w cs c ⟨vb, vs, vo, rfl, _⟩; rfl
  keep := by rintro w w' cs c ⟨vb, vs, vo, e, h⟩ hb; exact ⟨vb, vs, vo, e, h.below hb⟩
  one := by
    rintro w cs c ⟨vb, vs, vo, rfl, h⟩ u hu
    obtain ⟨a, k, rfl⟩ := h.1.form0
    obtain ⟨a, k, rfl⟩ := h.2.1.form0
    obtain ⟨a, k, rfl⟩ := h.2.2.1.form0
    simp at hu
    rcases hu with rfl | rfl | rfl | rfl <;> rfl
theorem opens_core : Opens 33 corRep := ⟨by kernel_rfl, fun {H enc w base spare held m cs y} h => by
  obtain ⟨ys, n, _, _, hlen, hyl, hf⟩ := DataW.trod_struct Try.underlying33 h
  have hl : cs.length = 4 := hlen.trans (by kernel_rfl)
  match cs, hl with
  | [c0, c1, c2, c3], _ =>
    obtain ⟨x0, e0, w0⟩ := field_int Try.underlying3 (by kernel_rfl) ((hf 0 _ rfl).trans (List.getElem?_eq_getElem (by rw [hyl]; decide)))
    obtain ⟨x1, e1⟩ := field_of opens_bufs ((hf 1 _ rfl).trans (List.getElem?_eq_getElem (by rw [hyl]; decide)))
    obtain ⟨x2, e2⟩ := field_of opens_stps ((hf 2 _ rfl).trans (List.getElem?_eq_getElem (by rw [hyl]; decide)))
    obtain ⟨x3, e3⟩ := field_of opens_ints ((hf 3 _ rfl).trans (List.getElem?_eq_getElem (by rw [hyl]; decide)))
    obtain ⟨v1, e1, h1⟩ := e1
    obtain ⟨v2, e2, h2⟩ := e2
    obtain ⟨v3, e3, h3⟩ := e3
    have f0 : [c0] = [.int .i64 x0] := e0
    have f1 : [c1] = [v1] := e1
    have f2 : [c2] = [v2] := e2
    have f3 : [c3] = [v3] := e3
    cases f0; cases f1; cases f2; cases f3
    exact ⟨⟨x0, x1, x2, x3⟩, c1, c2, c3, rfl, h1, h2, h3, bounds_i64 w0⟩⟩
section
variable {H : Type} {enc : TypeId × Value → H}
theorem open_core13 {w : World} {base b0 : Nat} {spare : Nat → Bool} {held : Bool} {v : Value} {d : DataW H} {p : List MemPlace} {r : Reach}
    (hv : Value.okWide Try.prog w r b0 61 v) (h : DataW.Trod enc Try.prog w base spare held 61 v d p) :
    ∃ c D ins vb vs vo vd vi, v = .agg #[.int .i64 c.vars, vb, vs, vo, vd, vi] ∧ CorAt w vb vs vo c ∧ (Rep.int .i64).Sl w vd D ∧ arrRep.Sl w vi ins := by
  obtain ⟨⟨cs⟩, rfl, hsz⟩ := okWide_struct Try.underlying61 hv
  have hl : cs.length = 6 := by simpa using hsz.trans (by kernel_rfl : Try.prog.cellsOf 61 = 6)
  obtain ⟨m, hm⟩ := h
  obtain ⟨ys, n, _, _, hlen, hyl, hf⟩ := DataW.trod_struct Try.underlying61 hm
  match cs, hl with
  | [c0, c1, c2, c3, c4, c5], _ =>
    obtain ⟨x0, e0⟩ := field_of opens_core ((hf 0 _ rfl).trans (List.getElem?_eq_getElem (by rw [hyl]; decide)))
    obtain ⟨x1, e1⟩ := field_of opens_i64s ((hf 1 _ rfl).trans (List.getElem?_eq_getElem (by rw [hyl]; decide)))
    obtain ⟨x2, e2⟩ := field_of opens_arys ((hf 2 _ rfl).trans (List.getElem?_eq_getElem (by rw [hyl]; decide)))
    obtain ⟨vb, vs, vo, e0, h0⟩ := e0
    obtain ⟨v1, e1, h1⟩ := e1
    obtain ⟨v2, e2, h2⟩ := e2
    have f0 : [c0, c1, c2, c3] = [.int .i64 x0.vars, vb, vs, vo] := e0
    have f1 : [c4] = [v1] := e1
    have f2 : [c5] = [v2] := e2
    cases f0; cases f1; cases f2
    exact ⟨x0, x1, x2, c1, c2, c3, c4, c5, rfl, h0, h1, h2⟩
end
end Go.Proofs.Ytmlfeocdcjhhaaa

namespace Go.Proofs.Ytmlfeocdcjhhaaa
set_option maxRecDepth 100000
open Go.RowKit
set_option linter.unusedVariables false
set_option linter.unusedSimpArgs false
attribute [local go_sem ↓] Go.wp_at_zero Go.wp_at_succ

/-- 'make([]T, n)' among operations that draw their order -/
theorem wp_make_full {P : Program} (w : World) {o : Oper} {a : Act} {K : Act → World → Prop} {Q : Exit → Act → World → Prop} (l c : Operand) (t : TypeId) (hop : o.op = Op.makeSlice t l c)
    (base : Nat) (e : TypeId) (i : TypeInfo) (z : Value) (size : Nat) (h1 : P.underlying t = some (.slice e)) (h2 : P.info? e = some i) (h3 : i.zero = some z) (h4 : i.size = size)
    (kl kc : IntKind) (L C : Int) (n : Nat) (hl : a.eval l = .int kl L) (hc : a.eval c = .int kc C) (hL : L = (n : Int)) (hC : C = (n : Int)) (b2 : i.bytes * n ≤ 281474976710656) (b3 : n ≤ maxLen) (b4 : base ≤ w.heap.size)
    (hK : ∀ w', w'.ownsRow base e size (.slice (some ⟨w.heap.size, 0, none⟩) n n) n (madeCells z.cells (n * size)).toList → w.grownBy w' none → K (a.put o.dst (.slice (some ⟨w.heap.size, 0, none⟩) n n)) w') : o.wp P a w K Q := by
  obtain ⟨w', hrun, r1, r2⟩ := run_make_full (P := P) w base t e i z size h1 h2 h3 h4 kl kc n b2 b3 b4
  subst hL
  subst hC
  unfold Oper.wp
  simp [execOp, hop, hl, hc, hrun, Result.andThen]
  exact hK w' r1 r2
theorem zeros_row {w : World} {B g n : Nat} (h : w.ownsRow B 2 1 (.slice (some ⟨g, 0, none⟩) n n) n (madeCells (Value.int .i64 0).cells (n * 1)).toList) : RowI B w (.slice (some ⟨g, 0, none⟩) n n) (List.replicate n 0) := by
  unfold RowI
  rw [Nat.mul_one, show (Value.int .i64 0).cells = #[.int .i64 0] from rfl, madeOne] at h
  simpa using h
def LoadE (w : World) (M : Nat) (q : MQ) (D : List Int) (N : Nat) (r : Ex (List (List Int))) (e : Ending) (w' : World) : Prop := match r with
  | .error n => e = panE n ∧ KB (fun g => g = M) w w'
  | .ok mem => e = .returned (.tuple #[]) ∧ ∃ ma ml mc vals, LoadI w M { q with ma := ma, ml := ml, mc := mc } D N vals mem w'
theorem most_step (l : List Buf) {k : Nat} (h : k < l.length) : mostR (l.take (k + 1)) = max (mostR (l.take k)) (l[k].input + 1) := by
  unfold mostR
  rw [List.take_succ_eq_append_getElem h, List.foldl_append]
  rfl
theorem most_le : ∀ (l : List Buf) (m : Int), m ≤ l.foldl (fun m b => max m (b.input + 1)) m ∧ ∀ b ∈ l, b.input + 1 ≤ l.foldl (fun m b => max m (b.input + 1)) m
  | [], m => ⟨Int.le_refl _, fun b hb => by cases hb⟩
  | x :: r, m => by
    obtain ⟨h1, h2⟩ := most_le r (max m (x.input + 1))
    refine ⟨by rw [List.foldl_cons]; omega, fun b hb => ?_⟩
    rw [List.foldl_cons]
    rcases List.mem_cons.1 hb with e | e
    · subst e; omega
    · exact h2 b e
theorem most_bd {l : List Buf} (h : ∀ b ∈ l, b.input < 64) : 0 ≤ mostR l ∧ mostR l ≤ 64 := by
  refine ⟨(most_le l 0).1, ?_⟩
  unfold mostR
  suffices ∀ (l : List Buf) (m : Int), m ≤ 64 → (∀ b ∈ l, b.input < 64) → l.foldl (fun m b => max m (b.input + 1)) m ≤ 64 from this l 0 (by decide) h
  intro l
  induction l with
  | nil => intro m hm _; exact hm
  | cons x r ih =>
    intro m hm h
    rw [List.foldl_cons]
    refine ih _ ?_ (fun b hb => h b (List.mem_cons_of_mem _ hb))
    have := h x (by simp)
    omega
theorem load_drop (D : List Int) (ins : List Ary) {bufs : List Buf} {k : Nat} (h : k < bufs.length) (mem : List (List Int)) : loadR D ins (bufs.drop k) mem = if bufs[k].input < 0 then loadR D ins (bufs.drop (k + 1)) (mem ++ [List.replicate (sizeS D bufs[k].sides).1.toNat 0])
    else if (ins.getD bufs[k].input.toNat ([], [])).1 = sidesR D bufs[k] ∧ ((ins.getD bufs[k].input.toNat ([], [])).2.length : Int) = (sizeS D bufs[k].sides).1 then loadR D ins (bufs.drop (k + 1)) (mem ++ [(ins.getD bufs[k].input.toNat ([], [])).2])
    else .error 120 := by
  rw [List.drop_eq_getElem_cons h, loadR]
/-- what is asked of a core's buffers -/
def BufF (D : List Int) (b : Buf) : Prop := b.sides.length ≤ 4 ∧ (sizeS D b.sides).2 = true ∧ -1 ≤ b.input ∧ b.input < 64
/-- an array in a box of its own -/
structure ArrIn (w W : World) (z : Nat) (v u : Value) : Prop where
  below : Below w.heap.size w W
  d0 : W.cell? ⟨z, 0, none⟩ = some v
  d1 : W.cell? ⟨z, 1, none⟩ = some u
theorem ArrIn.next {w W W' : World} {z : Nat} {v u : Value} (h : ArrIn w W z v u) (hb : Below W.heap.size W W') : ArrIn w W' z v u := ⟨bNext hb h.below, keepCell hb h.d0, keepCell hb h.d1⟩
theorem ArrIn.new (w : World) (v u : Value) : ArrIn w (w.alloc (.cells #[v, u] 54)) w.heap.size v u := by
  have g0 := blockCells (cs := [v, u]) (World.alloc_heap_new w (.cells #[v, u] 54))
  exact ⟨(Below.refl _ _).alloc (Nat.le_refl _) _, g0 0, g0 1⟩
theorem right_of {s d : List Int} {n : Nat} (h : size s = ((n : Int), 0)) : right s d = true ↔ d.length = n := by
  unfold right
  rw [h]
  simp
  omega
set_option maxHeartbeats 16000000 in
theorem load_any (wB w : World) (M : Nat) (q : MQ) (D : List Int) (ins : List Ary) (bufs : List Buf) (ia : Option Addr) (ic : Nat)
    (hrow : w.heap[M]? = some (.cells (q.row D (.slice none 0 0)) 82 (0, 0))) (ha : q.ma = none) (hl : q.ml = 0) (hc : q.mc = 0) (hMB : wB.heap.size ≤ M) (hbel : Below wB.heap.size wB w)
    (hb : bufRep.Sl wB q.vb bufs) (hi : arrRep.Els wB ia ins) (hil : ins.length ≤ maxLen) (hd : IntsAt .i64 wB q.ad D) (hDl : D.length ≤ 6) (hbl : bufs.length ≤ 1024) (hf : ∀ b ∈ bufs, BufF D b) :
    Calls Try.prog 41 #[.pointer (some ⟨M, 0, none⟩), .slice ia ins.length ic] w (LoadE w M q D bufs.length (if (ins.length : Int) ≠ mostR bufs then .error 120 else loadR D ins bufs [])) := by
  obtain ⟨R, hR⟩ : ∃ R, (if (ins.length : Int) ≠ mostR bufs then .error 120 else loadR D ins bufs []) = R := ⟨_, rfl⟩
  rw [hR]
  have hst := LoadI.start hrow ha hl hc
  have hMw := block_lt hrow
  have hbs := hb
  obtain ⟨ba, bc, hvb, hbc, -, -, hbe⟩ := hb
  have x1 : w.cell? ⟨M, 1, none⟩ = some (.slice ba bufs.length bc) := by rw [cell_of_row w M 1 _ _ _ hrow, ← hvb]; rfl
  obtain ⟨bl, hbn⟩ : ∃ n, bufs.length = n := ⟨_, rfl⟩
  obtain ⟨il, hin⟩ : ∃ n, ins.length = n := ⟨_, rfl⟩
  rw [hbn] at x1 hbl ⊢
  rw [hin] at hil ⊢
  unfold maxLen at hil
  have HST := Lib.hid hst; have HRR := Lib.hid hR; have HBN := Lib.hid hbn; have HIN := Lib.hid hin; have HBS := Lib.hid hbs; have HBE := Lib.hid hbe; have HI := Lib.hid hi; have HD := Lib.hid hd; have HF := Lib.hid hf; have HBEL := Lib.hid hbel
  clear hst hR hbn hin hbs hbe hi hd hf hbel hrow ha hl hc hvb hbc
  go_enter Try.func41, Try.ntmps41
  go_wp2_with fail
  go_loopw [4, 19] (fun m i wr => ∃ k : Nat, i = .int .i64 k ∧ k ≤ bl ∧ m = .int .i64 (mostR (bufs.take k)) ∧ Below w.heap.size w wr) (fun _ i _ => bl - (intOf i).toNat)
  case atStart => exact ⟨0, rfl, Nat.zero_le _, rfl, Below.refl _ _⟩
  case round =>
    obtain ⟨k, rfl, hk, rfl, hbw⟩ := hrel
    by_cases hlt : k < bl
    · have hkb : k < bufs.length := by rw [HBN.out]; exact hlt
      obtain ⟨b, off, cs, rfl, ⟨v', rfl, hps, -⟩, hc⟩ := (HBE.out.below bufRep (HBEL.out.trans (hbw.mono HBEL.out.size)) (Nat.le_refl _)) k hkb
      have e0 := hc 0 _ rfl; have e1 := hc 1 _ rfl
      simp only [show bufRep.n = 2 from rfl, Nat.add_zero] at e0 e1
      obtain ⟨sa', sc', rfl, -, -⟩ := Rep.Sl.form hps
      have hnw := bufIn_new wr (.slice sa' bufs[k].sides.length sc') bufs[k].input
      have hms := most_step bufs hkb
      obtain ⟨-, -, hi0, hi1⟩ := HF.out _ (List.getElem_mem hkb)
      have hmb := most_bd (l := bufs.take k) (fun b hb => (HF.out b (List.mem_of_mem_take hb)).2.2.2)
      obtain ⟨sn, hsn⟩ : ∃ sn, bufs[k].sides.length = sn := ⟨_, rfl⟩
      obtain ⟨inp, hinp⟩ : ∃ inp, bufs[k].input = inp := ⟨_, rfl⟩
      rw [hsn] at e0; rw [hinp] at e1 hms hi0 hi1; rw [hsn, hinp] at hnw
      obtain ⟨m, hm⟩ : ∃ m, mostR (bufs.take k) = m := ⟨_, rfl⟩
      rw [hm] at hms hmb ⊢
      have HNW := Lib.hid hnw; have HBW := Lib.hid hbw; have HMS := Lib.hid hms
      clear hnw hbw hms hps hc hsn hinp hm
      go_upto_region 4 with fail
      refine gen_worldA (fun W3 => BufIn wr W3 wr.heap.size (.slice sa' sn sc') inp) HNW.out ?_
      clear HNW e0 e1
      intro W3 hb3
      obtain ⟨hb3, d0, d1, hzz⟩ := hb3
      have HB3 := Lib.hid (bNext hb3 HBW.out)
      clear hb3
      by_cases hmx : m ≤ inp + 1
      · have hmm : max m (inp + 1) = inp + 1 := by omega
        rw [hmm] at HMS
        have hI : decide (inp + 1 < m) = false := by simpa using hmx
        clear hmm
        go_wp2_with fail
        go_roundw
        case rel => exact ⟨k + 1, by go_num, by omega, by rw [HMS.out]; try (congr 1; split <;> omega), HB3.out⟩
        case measure => simp [intOf]; omega
      · have hmm : max m (inp + 1) = m := by omega
        rw [hmm] at HMS
        have hI : decide (m < inp + 1) = false := by simp; omega
        have hJ : inp + 1 ≤ m := by omega
        clear hmm
        go_wp2_with fail
        go_roundw
        case rel => exact ⟨k + 1, by go_num, by omega, by rw [HMS.out]; try (congr 1; split <;> omega), HB3.out⟩
        case measure => simp [intOf]; omega
    · have htk : bufs.take k = bufs := List.take_of_length_le (by rw [HBN.out]; omega)
      rw [htk]
      have hmb := most_bd (l := bufs) (fun b hb => (HF.out b hb).2.2.2)
      have hmi := (most_le bufs 0).2
      have li := HST.out.out hbw
      have x1 := keepCB hbw (Nat.le_refl _) x1
      have hR := HRR.out
      rw [HIN.out] at hR
      change ∀ b ∈ bufs, b.input + 1 ≤ mostR bufs at hmi
      obtain ⟨m, hm⟩ : ∃ m, mostR bufs = m := ⟨_, rfl⟩
      rw [hm] at hmb hmi hR ⊢
      have HLI := Lib.hid li; have HMI := Lib.hid hmi
      clear htk hm li hmi hbw
      by_cases hne : (il : Int) = m
      case neg =>
        have hI : ((il : Int) != m) = true := by simpa using hne
        rw [if_pos hne] at hR
        subst hR
        clear hne
        go_wp2_with fail
        exact ⟨rfl, rfl, HLI.out.kb⟩
      have hI : ((il : Int) != m) = false := by simpa using hne
      rw [if_neg (by simpa using hne)] at hR
      have HRUN := Lib.hid hR; have HNE := Lib.hid hne
      clear hR hne HRR HST
      go_wp2_with fail
      go_loopw [40] (fun i wr => ∃ (k : Nat) (ma : Option Addr) (ml mc : Nat) (vals : List Value) (mem : List (List Int)), i = .int .i64 k ∧ k ≤ bl ∧ loadR D ins (bufs.drop k) mem = R ∧ LoadI w M { q with ma := ma, ml := ml, mc := mc } D k vals mem wr) (fun i _ => bl - (intOf i).toNat)
      case atStart => exact ⟨0, q.ma, q.ml, q.mc, [], [], rfl, Nat.zero_le _, HRUN.out, HLI.out⟩
      case round =>
        obtain ⟨k, ma, ml, mc, vals, mem, rfl, hk, hrun, li⟩ := hrel
        have hbB : Below wB.heap.size wB wr := HBEL.out.trans (li.kb.below HBEL.out.size (fun g e => e ▸ hMB))
        by_cases hlt : k < bl
        · have hkb : k < bufs.length := by rw [HBN.out]; exact hlt
          obtain ⟨b, off, cs, rfl, ⟨v', rfl, hps, -⟩, hc⟩ := (HBE.out.below bufRep hbB (Nat.le_refl _)) k hkb
          have e0 := hc 0 _ rfl; have e1 := hc 1 _ rfl
          simp only [show bufRep.n = 2 from rfl, Nat.add_zero] at e0 e1
          obtain ⟨sa', sc', rfl, -, -⟩ := Rep.Sl.form hps
          have hnw := bufIn_new wr (.slice sa' bufs[k].sides.length sc') bufs[k].input
          have hms := load_drop D ins hkb mem
          rw [hrun] at hms
          obtain ⟨hf4, hfs, hi0, hi1⟩ := HF.out _ (List.getElem_mem hkb)
          obtain ⟨hsz, hev⟩ := size_sides hf4 hfs
          have hsb := size_bd D bufs[k].sides
          have hmi := HMI.out _ (List.getElem_mem hkb)
          have hsl : (sidesR D bufs[k]).length ≤ 4 := by unfold sidesR; rw [List.length_map]; exact hf4
          have hsi := fun W (hb : Below wr.heap.size wr W) => sides_any wB W M { q with ma := ma, ml := ml, mc := mc } D _ (block_below li.row hb) (hbB.trans (hb.mono hbB.size)) bufs HBS.out k hkb HD.out hDl hf4 hev
          obtain ⟨S, hS⟩ : ∃ S, sidesR D bufs[k] = S := ⟨_, rfl⟩
          rw [hS] at hms hsl hsz
          simp only [hS] at hsi
          obtain ⟨sn, hsn⟩ : ∃ sn, bufs[k].sides.length = sn := ⟨_, rfl⟩
          obtain ⟨inp, hinp⟩ : ∃ inp, bufs[k].input = inp := ⟨_, rfl⟩
          obtain ⟨nz, hnz⟩ : ∃ nz, (sizeS D bufs[k].sides).1 = nz := ⟨_, rfl⟩
          rw [hnz] at hms hsb hsz
          rw [hsn] at e0; rw [hinp] at e1 hms hi0 hi1 hmi; rw [hsn, hinp] at hnw
          obtain ⟨n, rfl⟩ : ∃ n : Nat, nz = n := ⟨nz.toNat, by omega⟩
          rw [Int.toNat_natCast] at hms
          have hn6 : n ≤ 65536 := by omega
          obtain ⟨sl, hsln⟩ : ∃ n, S.length = n := ⟨_, rfl⟩
          simp only [hsln] at hsi
          rw [hsln] at hsl
          have HNW := Lib.hid hnw; have HMS := Lib.hid hms; have HSI := Lib.hid hsi; have HSZ := Lib.hid hsz; have HLK := Lib.hid li; have HSLN := Lib.hid hsln; have HBB := Lib.hid hbB
          clear hnw hms hps hc hsn hinp hnz hsi hS hf4 hfs hev hsz hsb hrun li hsln hbB
          go_upto_region 11 with fail
          refine gen_worldA (fun W3 => BufIn wr W3 wr.heap.size (.slice sa' sn sc') inp) HNW.out ?_
          clear HNW e0 e1
          intro W3 hb3
          have HQ := Lib.hid (HSI.out W3 hb3.below)
          have HB3 := Lib.hid hb3
          obtain ⟨bz, hbz⟩ : ∃ z, wr.heap.size = z := ⟨_, rfl⟩
          rw [hbz] at HB3 ⊢
          clear hb3 HSI hbz
          go_upto_region 12 with (go_at_call 43; refine HQ.out.mono ?_; rintro e w4 ⟨va, vc, rfl, hr4, hb4⟩)
          have hb5 := HB3.out.next hb4
          have li4 := HLK.out.out hb5.below
          have d1 := hb5.d1
          have d0 := hb5.d0
          obtain ⟨hva, hvi, hvc⟩ := hr4.where
          have HB5 := Lib.hid hb5; have HL4 := Lib.hid li4; have HVI := Lib.hid hvi
          clear hb5 li4 hvi hr4 hb4 HB3 HLK HQ
          by_cases hneg : inp < 0
          · have hI2 : decide (inp < 0) = true := by simpa using hneg
            have hms : R = loadR D ins (bufs.drop (k + 1)) (mem ++ [List.replicate n 0]) := by rw [HMS.out, if_pos hneg]
            have HMS := Lib.hid hms
            clear hms hneg
            have hz := asize_any w4 va vc S (by rw [HSLN.out]; unfold maxLen; omega) HVI.out
            rw [HSZ.out, HSLN.out] at hz
            unfold two at hz
            dsimp only at hz
            have HZ := Lib.hid hz
            clear hz
            go_upto_region 14 with (go_at_call 71; refine HZ.out.mono ?_; rintro e w5 ⟨rfl, hb5⟩)
            have li5 := HL4.out.out hb5
            have HL5 := Lib.hid li5
            clear hb5 li5 HZ HL4 d0 d1 HB5 HVI hI2
            refine wp_region_Z (S := fun W' => W'.cell? ⟨M, 5, none⟩ = some (.slice ma ml mc)) (z := 9) (by kernel_rfl) ?_
            have li6 := HL5.out.out (Below.drewN w5 1)
            obtain ⟨w6, hw6⟩ : ∃ W, w5.drew = W := ⟨_, rfl⟩
            rw [show w5.drewN 1 = w6 from hw6] at li6
            rw [hw6]
            have hSS : w6.cell? ⟨M, 5, none⟩ = some (.slice ma ml mc) := by rw [cell_of_row w6 M 5 _ _ _ li6.row]; rfl
            have HL6 := Lib.hid li6
            clear li6 hw6 HL5
            refine wpAnyZ_take (i := 0) (v := ?_) rfl (by kernel_rfl) (by kernel_rfl) (by kernel_rfl) (fun _ _ _ h => h) (by kernel_rfl) (Or.inl ⟨by rfl, ?_⟩) (by assumption) ?_
            rotate_left
            · intro w' hSw
              try dsimp only at hSw
              try obtain ⟨hSw, hSw2⟩ := hSw
              go_simp
              try with_reducible rfl
            show wpAnyZ _ _ _ _ _ _ _ _ (Act.put _ (some 56) _) _
            simp only [Act.put, List.setIfInBounds_toArray, List.set_cons_zero, List.set_cons_succ]
            refine wpAnyZ_take (i := 1) (v := ?_) rfl (by kernel_rfl) (by kernel_rfl) (by kernel_rfl) (fun _ _ _ h => h) (by kernel_rfl) (Or.inl ⟨by rfl, ?_⟩) (by assumption) ?_
            rotate_left
            · intro w' hSw
              try dsimp only at hSw
              try obtain ⟨hSw, hSw2⟩ := hSw
              go_simp
              try with_reducible rfl
            show wpAnyZ _ _ _ _ _ _ _ _ (Act.put _ (some 57) _) _
            simp only [Act.put, List.setIfInBounds_toArray, List.set_cons_zero, List.set_cons_succ]
            refine wpAnyZ_take (i := 2) (v := ?_) rfl (by kernel_rfl) (by kernel_rfl) (by kernel_rfl) (fun _ _ _ h => h) (by kernel_rfl) (Or.inl ⟨by rfl, ?_⟩) (by assumption) ?_
            rotate_left
            · intro w' hSw
              try dsimp only at hSw
              try obtain ⟨hSw, hSw2⟩ := hSw
              go_simp
              try with_reducible rfl
            show wpAnyZ _ _ _ _ _ _ _ _ (Act.put _ (some 58) _) _
            simp only [Act.put, List.setIfInBounds_toArray, List.set_cons_zero, List.set_cons_succ]
            refine wpAnyZ_take (i := 3) (v := ?_) rfl (by kernel_rfl) (by kernel_rfl) (by kernel_rfl) (fun _ _ _ h => h) (by kernel_rfl) (Or.inl ⟨by rfl, ?_⟩) (by assumption) ?_
            rotate_left
            · intro w' hSw
              try dsimp only at hSw
              try obtain ⟨hSw, hSw2⟩ := hSw
              go_simp
              try with_reducible rfl
            show wpAnyZ _ _ _ _ _ _ _ _ (Act.put _ (some 59) _) _
            simp only [Act.put, List.setIfInBounds_toArray, List.set_cons_zero, List.set_cons_succ]
            refine wpAnyZ_take (i := 4) (v := ?_) rfl (by kernel_rfl) (by kernel_rfl) (by kernel_rfl) (fun _ _ _ h => h) (by kernel_rfl) (Or.inl ⟨by rfl, ?_⟩) (by assumption) ?_
            rotate_left
            · intro w' hSw
              try dsimp only at hSw
              try obtain ⟨hSw, hSw2⟩ := hSw
              go_simp
              try with_reducible rfl
            show wpAnyZ _ _ _ _ _ _ _ _ (Act.put _ (some 60) _) _
            simp only [Act.put, List.setIfInBounds_toArray, List.set_cons_zero, List.set_cons_succ]
            refine wpAnyZ_take (i := 5) (v := ?_) rfl (by kernel_rfl) (by kernel_rfl) (by kernel_rfl) (fun _ _ _ h => h) (by kernel_rfl) (Or.inl ⟨by rfl, ?_⟩) (by assumption) ?_
            rotate_left
            · intro w' hSw
              try dsimp only at hSw
              try obtain ⟨hSw, hSw2⟩ := hSw
              go_simp
              try with_reducible rfl
            show wpAnyZ _ _ _ _ _ _ _ _ (Act.put _ (some 61) _) _
            simp only [Act.put, List.setIfInBounds_toArray, List.set_cons_zero, List.set_cons_succ]
            obtain ⟨i0, hi, hz0, hz1, hz2⟩ := info_parts (show (Try.prog.info? 2).map (fun i => (i.zero, i.size, i.bytes)) = some (some (.int .i64 0), 1, 8) by kernel_rfl)
            refine wpAnyZ_one (i := 6) (by kernel_rfl) rfl rfl (fun K hK => ?_)
            refine wp_make_full _ _ _ 50 rfl w6.heap.size 2 i0 (.int .i64 0) 1 Try.underlying50 hi hz0 hz1 _ _ _ _ n rfl rfl rfl rfl (by rw [hz2]; omega) (by unfold maxLen; omega) (Nat.le_refl _) ?_
            intro w7 hown hgr
            have hrow7 := zeros_row hown
            have hb7 : Below w6.heap.size w6 w7 := (Below.refl _ _).grown hgr (Nat.le_refl _) (by simp)
            have li7 := HL6.out.out hb7
            refine hK.out _ _ (.inr (by rw [cell_of_row w7 M 5 _ _ _ li7.row]; rfl)) ?_
            have HROW7 := Lib.hid hrow7; have HB7 := Lib.hid hb7; have HL7 := Lib.hid li7
            clear hK hown hgr hrow7 hb7 li7 hSS hi hz0 hz1 hz2
            have HS := Lib.hid (show ∀ W, Below w6.heap.size w6 W → W.cell? ⟨M, 5, none⟩ = some (.slice ma ml mc) from fun W hb => by rw [cell_of_row W M 5 _ _ _ (block_below HL6.out.row hb)]; rfl)
            have HS9 := Lib.hid (show ∀ W w8, Below w6.heap.size w6 w8 → w8.grownBy W (Value.slice ma ml mc).ownBlock → W.cell? ⟨M, 5, none⟩ = some (.slice ma ml mc) → W.cell? ⟨M, 5, none⟩ = some (.slice ma ml mc) from fun _ _ _ _ h => h)
            have HR64 := Lib.hid (show ∀ x ∈ List.replicate n (0 : Int), In64 x from fun x hx => by rw [(List.mem_replicate.1 hx).2]; exact In64.zero)
            refine wpAnyZ_one (i := 7) (by kernel_rfl) rfl rfl (fun K hK => ?_)
            go_simp
            obtain ⟨G, hG⟩ : ∃ G, w7.heap.size = G := ⟨_, rfl⟩
            have hGn := heap_new hG (o := .cells #[(.slice (some ⟨w6.heap.size, 0, none⟩) n n)] 50)
            have hb8 : Below w7.heap.size w7 (w7.alloc (.cells #[(.slice (some ⟨w6.heap.size, 0, none⟩) n n)] 50)) := (Below.refl _ _).alloc (Nat.le_refl _) _
            rw [hG]
            obtain ⟨w8, hw8⟩ : ∃ W, w7.alloc (.cells #[(.slice (some ⟨w6.heap.size, 0, none⟩) n n)] 50) = W := ⟨_, rfl⟩
            rw [hw8] at hGn hb8 ⊢
            have li8 := HL7.out.out hb8
            have hb68 : Below w6.heap.size w6 w8 := HB7.out.trans (hb8.mono HB7.out.size)
            have hrow8 : RowI w6.heap.size w8 (.slice (some ⟨w6.heap.size, 0, none⟩) n n) (List.replicate n (0 : Int)) := own_keep HROW7.out (KeepTy.below hb8)
            show K _ w8
            refine hK.out _ _ (.inr (HS.out w8 hb68)) ?_
            clear hK hw8
            obtain ⟨j0, hj, hjz0, hjz1, hjz2⟩ := info_parts (show (Try.prog.info? 50).map (fun i => (i.zero, i.size, i.bytes)) = some (some (.slice none 0 0), 1, 24) by kernel_rfl)
            have hhdr : w8.ownsRow 0 50 1 (.slice ma ml mc) k vals := by have := li8.rows.hdr; rw [li8.len] at this; exact this
            refine wpAnyZ_one (i := 8) (by kernel_rfl) rfl rfl (fun K hK => ?_)
            refine wp_append_src w8 _ _ 80 rfl 0 50 j0 _ 1 24 Try.underlying80 hj hjz0 hjz1 hjz2 rfl (by decide) (.slice ma ml mc) k vals rfl hhdr _ 1 [(.slice (some ⟨w6.heap.size, 0, none⟩) n n)] rfl (src_block hGn 1) rfl (by intro z hz; cases List.mem_singleton.1 hz; rfl) (by unfold maxLen; omega) (by omega) (Nat.zero_le _) ?_
            intro v9 w9 hown hgr hnw
            obtain ⟨a9, c9, rfl⟩ : ∃ a' c', v9 = .slice a' (k + 1) c' := by
              obtain ⟨_, ⟨h, h0⟩ | ⟨g, cap, cur, hv, _⟩⟩ := hown
              · omega
              · exact ⟨_, _, hv⟩
            have lin := HL6.out.push hMw (Nat.le_refl _) hb68 hrow8 HR64.out hown hgr hnw
            have hm9 : w9.heap[M]? = _ := block_grown li8.row hgr (fun e => by have := (li8.new M (.inl e)).1; omega)
            have x5 := cell_of_row w9 M 5 _ _ _ hm9
            have f5 := frozen_of_row w9 M 5 _ _ hm9
            show K _ w9
            refine hK.out _ _ (.inr (HS9.out w9 w8 hb68 hgr x5)) ?_
            have HLIN := Lib.hid lin
            clear hK hown hgr hnw hhdr hj hjz0 hjz1 hjz2 hGn hb8 li8 hb68 hrow8 lin hm9 HL7 HL6 HB7 HROW7 HS HS9
            refine wpAnyZ_one (i := 9) (by kernel_rfl) rfl rfl (fun K hK => ?_)
            go_simp
            show K _ w9
            refine hK.out _ _ (.inl (by decide)) ?_
            clear hK
            refine wpAnyZ_one (i := 10) (by kernel_rfl) rfl rfl (fun K hK => ?_)
            go_simp
            show K _ w9
            refine hK.out _ _ (.inl (by decide)) ?_
            clear hK
            refine wpAnyZ_one (i := 11) (by kernel_rfl) rfl rfl (fun K hK => ?_)
            go_simp
            show K _ (w9.setCell ⟨M, 5, none⟩ (.slice a9 (k + 1) c9))
            refine hK.out _ _ (.inl (by decide)) ?_
            clear hK x5 f5
            refine wpAnyZ_done (by kernel_rfl) ?_ _
            go_wp2_with fail
            go_roundw
            case rel => exact ⟨k + 1, a9, k + 1, c9, vals ++ [(.slice (some ⟨w6.heap.size, 0, none⟩) n n)], mem ++ [(List.replicate n (0 : Int))], by go_num, by omega, HMS.out.symm, HLIN.out⟩
            case measure => simp [intOf]; omega
          · have hI2 : decide (inp < 0) = false := by simpa using hneg
            obtain ⟨ix, rfl⟩ : ∃ ix : Nat, inp = ix := ⟨inp.toNat, by omega⟩
            have hixl : ix < il := by have := HNE.out; omega
            have hix : ix < ins.length := by have := HIN.out; omega
            have hms := HMS.out
            have hget : ins.getD ix ([], []) = ins[ix] := by rw [List.getD_eq_getElem?_getD, List.getElem?_eq_getElem hix]; rfl
            rw [if_neg hneg, Int.toNat_natCast, hget] at hms
            have hb4 : Below wB.heap.size wB w4 := HBB.out.trans (HB5.out.below.mono HBB.out.size)
            obtain ⟨b2, off2, cs2, rfl, ⟨v1, v2, rfl, hs1, hs2⟩, hc2⟩ := (HI.out.below arrRep hb4 (Nat.le_refl _)) ix hix
            have y0 := hc2 0 _ rfl; have y1 := hc2 1 _ rfl
            simp only [show arrRep.n = 2 from rfl, Nat.add_zero] at y0 y1
            have hr64 := int_in hs2
            have hsm : ins[ix].1.length ≤ maxLen := by obtain ⟨_, _, _, h1, h2, _⟩ := hs1; exact Nat.le_trans h1 h2
            obtain ⟨a1, c1, rfl⟩ := hs1.form0
            obtain ⟨a2, c2, rfl⟩ := hs2.form0
            obtain ⟨-, hi1⟩ := int_at hs1
            obtain ⟨-, hi2⟩ := int_at hs2
            obtain ⟨ar, har⟩ : ∃ ar, ins[ix] = ar := ⟨_, rfl⟩
            rw [har] at hms y0 y1 hr64 hsm hi1 hi2
            obtain ⟨S1, D1⟩ := ar
            dsimp only at hms y0 y1 hr64 hsm hi1 hi2
            have hright := fun W (hb : Below w4.heap.size w4 W) => aright_any W a1 a2 c1 c2 S1 D1 hsm (hi1.below hb (Nat.le_refl _))
            have hequal := fun W (hb : Below w4.heap.size w4 W) => equal_any W a1 va c1 vc S1 S hsm (by rw [HSLN.out]; unfold maxLen; omega) (hi1.below hb (Nat.le_refl _)) (HVI.out.below hb (Nat.le_refl _))
            obtain ⟨n1, hn1⟩ : ∃ n, S1.length = n := ⟨_, rfl⟩
            obtain ⟨n2, hn2⟩ : ∃ n, D1.length = n := ⟨_, rfl⟩
            rw [hn1] at y0; rw [hn2] at y1 hms
            simp only [hn1, hn2] at hright; simp only [hn1, HSLN.out] at hequal
            have hgood : ∀ (h1 : S1 = S) (h2 : n2 = n), R = loadR D ins (bufs.drop (k + 1)) (mem ++ [D1]) := fun h1 h2 => by rw [hms, if_pos ⟨h1, by omega⟩]
            have hbad : ¬ (S1 = S ∧ n2 = n) → R = .error 120 := fun h => by rw [hms, if_neg (fun h2 => h ⟨h2.1, by omega⟩)]
            have hro : S1 = S → (right S1 D1 = true ↔ n2 = n) := fun h => by rw [h, right_of HSZ.out, hn2]
            have HRIGHT := Lib.hid hright; have HEQ := Lib.hid hequal; have HGOOD := Lib.hid hgood; have HBAD := Lib.hid hbad; have HRO := Lib.hid hro; have HR64 := Lib.hid hr64; have HI2 := Lib.hid hi2; have HN2 := Lib.hid hn2
            have hnew := ArrIn.new w4 (.slice a1 n1 c1) (.slice a2 n2 c2)
            have HNEW := Lib.hid hnew
            clear hms hright hequal hgood hbad hro hr64 hi1 hi2 hs1 hs2 hc2 hsm har hget hneg HMS HSZ hb4 hn1 hn2 hnew hix
            go_upto_region 16 with fail
            refine gen_worldA (fun W => ArrIn w4 W w4.heap.size (.slice a1 n1 c1) (.slice a2 n2 c2)) HNEW.out ?_
            clear HNEW y0 y1 d0 d1
            intro w5 hai
            obtain ⟨az, haz⟩ : ∃ z, w4.heap.size = z := ⟨_, rfl⟩
            have HRI := Lib.hid (HRIGHT.out w5 hai.below)
            have li5 := HL4.out.out hai.below
            rw [haz] at hai ⊢
            have hlt := fun g (e : (Value.slice ma ml mc).ownBlock = some g) => (HL4.out.new g (.inl e)).2
            rw [haz] at hlt
            have HLT := Lib.hid hlt
            clear hlt
            have HAI := Lib.hid hai; have HL5 := Lib.hid li5; have HAZ := Lib.hid haz
            have d0 := hai.d0; have d1 := hai.d1
            clear hai li5 haz HRIGHT HL4
            cases hrt : right S1 D1 with
            | false =>
              obtain rfl : R = .error 120 := HBAD.out fun ⟨h1, h2⟩ => by
                have := (HRO.out h1).2 h2
                rw [hrt] at this
                cases this
              rw [hrt] at HRI
              clear hrt
              go_wp2_with (go_at_call 72; refine HRI.out.mono ?_; rintro e w6 ⟨rfl, hb6⟩)
              exact ⟨rfl, rfl, HL5.out.kb.out hb6⟩
            | true =>
              rw [hrt] at HRI
              have hgo : S1 = S → n2 = n := fun h => (HRO.out h).1 hrt
              have HGO := Lib.hid hgo
              clear hrt hgo
              cases hin : ints S1 S with
              | false =>
                obtain rfl : R = .error 120 := HBAD.out fun ⟨h1, h2⟩ => by
                  unfold ints at hin
                  simp [h1] at hin
                rw [hin] at HEQ
                clear hin
                go_wp2_with (first | (go_at_call 72; refine HRI.out.mono ?_; rintro e w6 ⟨rfl, hb6⟩; have d2 := keepCell hb6 d0) | (go_at_call 73; refine (HEQ.out _ (bNext hb6 HAI.out.below)).mono ?_; rintro e w7 ⟨rfl, nq, rfl⟩))
                exact ⟨rfl, rfl, (HL5.out.kb.out hb6).drewN _⟩
              | true =>
                have hS1 : S1 = S := by unfold ints at hin; simpa using hin
                have HMS := Lib.hid (HGOOD.out hS1 (HGO.out hS1))
                rw [hin] at HEQ
                have hn26 : n2 ≤ 65536 := by have := HGO.out hS1; omega
                clear hin hS1
                go_upto_region 18 with (first | (go_at_call 72; refine HRI.out.mono ?_; rintro e w6 ⟨rfl, hb6⟩; have d2 := keepCell hb6 d0) | (go_at_call 73; refine (HEQ.out _ (bNext hb6 HAI.out.below)).mono ?_; rintro e w7 ⟨rfl, nq, rfl⟩))
                have hb7 : Below w5.heap.size w5 (w6.drewN nq) := (hb6.trans (Below.drewN _ _))
                have hai := HAI.out.next hb7
                have li7 := HL5.out.out hb7
                obtain ⟨w5', hw5⟩ : ∃ W, w6.drewN nq = W := ⟨_, rfl⟩
                rw [hw5] at hai li7 ⊢
                have HAI := Lib.hid hai; have HL5 := Lib.hid li7
                clear hb7 hai li7 hw5 hb6 d2 d0 d1 HEQ HRI
                refine wp_region_Z (S := fun W' => W'.cell? ⟨M, 5, none⟩ = some (.slice ma ml mc) ∧ W'.cell? ⟨az, 1, none⟩ = some (.slice a2 n2 c2)) (z := 10) (by kernel_rfl) ?_
                have li6 := HL5.out.out (Below.drewN w5' 1)
                have hai6 := HAI.out.next (Below.drewN w5' 1)
                obtain ⟨w6, hw6⟩ : ∃ W, w5'.drew = W := ⟨_, rfl⟩
                rw [show w5'.drewN 1 = w6 from hw6] at li6 hai6
                rw [hw6]
                have HL6 := Lib.hid li6; have HAI6 := Lib.hid hai6
                have hSS : w6.cell? ⟨M, 5, none⟩ = some (.slice ma ml mc) ∧ w6.cell? ⟨az, 1, none⟩ = some (.slice a2 n2 c2) := ⟨by rw [cell_of_row w6 M 5 _ _ _ HL6.out.row]; rfl, hai6.d1⟩
                have HS := Lib.hid (show ∀ W, Below w6.heap.size w6 W → W.cell? ⟨M, 5, none⟩ = some (.slice ma ml mc) ∧ W.cell? ⟨az, 1, none⟩ = some (.slice a2 n2 c2) from fun W hb => ⟨by rw [cell_of_row W M 5 _ _ _ (block_below HL6.out.row hb)]; rfl, keepCell hb HAI6.out.d1⟩)
                clear li6 hai6 hw6 HL5 HAI
                refine wpAnyZ_take (i := 0) (v := ?_) rfl (by kernel_rfl) (by kernel_rfl) (by kernel_rfl) (fun _ _ _ h => h) (by kernel_rfl) (Or.inl ⟨by rfl, ?_⟩) (by assumption) ?_
                rotate_left
                · intro w' hSw
                  try dsimp only at hSw
                  try obtain ⟨hSw, hSw2⟩ := hSw
                  go_simp
                  try with_reducible rfl
                show wpAnyZ _ _ _ _ _ _ _ _ (Act.put _ (some 83) _) _
                simp only [Act.put, List.setIfInBounds_toArray, List.set_cons_zero, List.set_cons_succ]
                refine wpAnyZ_take (i := 1) (v := ?_) rfl (by kernel_rfl) (by kernel_rfl) (by kernel_rfl) (fun _ _ _ h => h) (by kernel_rfl) (Or.inl ⟨by rfl, ?_⟩) (by assumption) ?_
                rotate_left
                · intro w' hSw
                  try dsimp only at hSw
                  try obtain ⟨hSw, hSw2⟩ := hSw
                  go_simp
                  try with_reducible rfl
                show wpAnyZ _ _ _ _ _ _ _ _ (Act.put _ (some 84) _) _
                simp only [Act.put, List.setIfInBounds_toArray, List.set_cons_zero, List.set_cons_succ]
                refine wpAnyZ_take (i := 2) (v := ?_) rfl (by kernel_rfl) (by kernel_rfl) (by kernel_rfl) (fun _ _ _ h => h) (by kernel_rfl) (Or.inl ⟨by rfl, ?_⟩) (by assumption) ?_
                rotate_left
                · intro w' hSw
                  try dsimp only at hSw
                  try obtain ⟨hSw, hSw2⟩ := hSw
                  go_simp
                  try with_reducible rfl
                show wpAnyZ _ _ _ _ _ _ _ _ (Act.put _ (some 85) _) _
                simp only [Act.put, List.setIfInBounds_toArray, List.set_cons_zero, List.set_cons_succ]
                refine wpAnyZ_take (i := 3) (v := ?_) rfl (by kernel_rfl) (by kernel_rfl) (by kernel_rfl) (fun _ _ _ h => h) (by kernel_rfl) (Or.inl ⟨by rfl, ?_⟩) (by assumption) ?_
                rotate_left
                · intro w' hSw
                  try dsimp only at hSw
                  try obtain ⟨hSw, hSw2⟩ := hSw
                  go_simp
                  try with_reducible rfl
                show wpAnyZ _ _ _ _ _ _ _ _ (Act.put _ (some 86) _) _
                simp only [Act.put, List.setIfInBounds_toArray, List.set_cons_zero, List.set_cons_succ]
                refine wpAnyZ_take (i := 4) (v := ?_) rfl (by kernel_rfl) (by kernel_rfl) (by kernel_rfl) (fun _ _ _ h => h) (by kernel_rfl) (Or.inl ⟨by rfl, ?_⟩) (by assumption) ?_
                rotate_left
                · intro w' hSw
                  try dsimp only at hSw
                  try obtain ⟨hSw, hSw2⟩ := hSw
                  go_simp
                  try with_reducible rfl
                show wpAnyZ _ _ _ _ _ _ _ _ (Act.put _ (some 87) _) _
                simp only [Act.put, List.setIfInBounds_toArray, List.set_cons_zero, List.set_cons_succ]
                refine wpAnyZ_take (i := 5) (v := ?_) rfl (by kernel_rfl) (by kernel_rfl) (by kernel_rfl) (fun _ _ _ h => h) (by kernel_rfl) (Or.inl ⟨by rfl, ?_⟩) (by assumption) ?_
                rotate_left
                · intro w' hSw
                  try dsimp only at hSw
                  try obtain ⟨hSw, hSw2⟩ := hSw
                  go_simp
                  try with_reducible rfl
                show wpAnyZ _ _ _ _ _ _ _ _ (Act.put _ (some 88) _) _
                simp only [Act.put, List.setIfInBounds_toArray, List.set_cons_zero, List.set_cons_succ]
                refine wpAnyZ_take (i := 6) (v := ?_) rfl (by kernel_rfl) (by kernel_rfl) (by kernel_rfl) (fun _ _ _ h => h) (by kernel_rfl) (Or.inl ⟨by rfl, ?_⟩) (by assumption) ?_
                rotate_left
                · intro w' hSw
                  try dsimp only at hSw
                  try obtain ⟨hSw, hSw2⟩ := hSw
                  go_simp
                  try with_reducible rfl
                show wpAnyZ _ _ _ _ _ _ _ _ (Act.put _ (some 89) _) _
                simp only [Act.put, List.setIfInBounds_toArray, List.set_cons_zero, List.set_cons_succ]
                refine wpAnyZ_one (i := 7) (by kernel_rfl) rfl rfl (fun K hK => ?_)
                go_simp
                have hcl := clone_n w6 a2 n2 c2 D1 HN2.out.symm (by rw [HN2.out]; omega) (HI2.out.below HAI6.out.below (Nat.le_refl _))
                refine hcl.mono ?_
                rintro e w7 ⟨⟨rv, rfl, hrow7⟩, hb7⟩
                have li7 := HL6.out.out hb7
                show K _ w7
                refine hK.out _ _ (.inr (HS.out w7 hb7)) ?_
                have hone := own_cell1 hrow7
                have HROW7 := Lib.hid hrow7; have HB7 := Lib.hid hb7; have HL7 := Lib.hid li7
                have HS9 := Lib.hid (show ∀ W w8, Below w6.heap.size w6 w8 → w8.grownBy W (Value.slice ma ml mc).ownBlock → W.cell? ⟨M, 5, none⟩ = some (.slice ma ml mc) → W.cell? ⟨M, 5, none⟩ = some (.slice ma ml mc) ∧ W.cell? ⟨az, 1, none⟩ = some (.slice a2 n2 c2) from fun W w8 hb hg h => ⟨h, by
                  have h8 := keepCell hb HAI6.out.d1
                  exact (World.cell?_of_block (w := w8) (a := ⟨az, 1, none⟩) (hg.block az (World.block_lt_of_cell? w8 _ h8) (fun e => by have := HLT.out az e.symm; omega))).trans h8⟩)
                obtain ⟨ra, rc, rfl⟩ := row_form hrow7
                rw [HN2.out] at HROW7 ⊢
                clear hK hrow7 hb7 li7 hSS hcl hone HAI6
                refine wpAnyZ_one (i := 8) (by kernel_rfl) rfl rfl (fun K hK => ?_)
                go_simp
                obtain ⟨G, hG⟩ : ∃ G, w7.heap.size = G := ⟨_, rfl⟩
                have hGn := heap_new hG (o := .cells #[(.slice ra n2 rc)] 50)
                have hb8 : Below w7.heap.size w7 (w7.alloc (.cells #[(.slice ra n2 rc)] 50)) := (Below.refl _ _).alloc (Nat.le_refl _) _
                rw [hG]
                obtain ⟨w8, hw8⟩ : ∃ W, w7.alloc (.cells #[(.slice ra n2 rc)] 50) = W := ⟨_, rfl⟩
                rw [hw8] at hGn hb8 ⊢
                have li8 := HL7.out.out hb8
                have hb68 : Below w6.heap.size w6 w8 := HB7.out.trans (hb8.mono HB7.out.size)
                have hrow8 : RowI w6.heap.size w8 (.slice ra n2 rc) D1 := own_keep HROW7.out (KeepTy.below hb8)
                show K _ w8
                refine hK.out _ _ (.inr (HS.out w8 hb68)) ?_
                clear hK hw8
                obtain ⟨j0, hj, hjz0, hjz1, hjz2⟩ := info_parts (show (Try.prog.info? 50).map (fun i => (i.zero, i.size, i.bytes)) = some (some (.slice none 0 0), 1, 24) by kernel_rfl)
                have hhdr : w8.ownsRow 0 50 1 (.slice ma ml mc) k vals := by have := li8.rows.hdr; rw [li8.len] at this; exact this
                refine wpAnyZ_one (i := 9) (by kernel_rfl) rfl rfl (fun K hK => ?_)
                refine wp_append_src w8 _ _ 80 rfl 0 50 j0 _ 1 24 Try.underlying80 hj hjz0 hjz1 hjz2 rfl (by decide) (.slice ma ml mc) k vals rfl hhdr _ 1 [(.slice ra n2 rc)] rfl (src_block hGn 1) rfl (by intro z hz; cases List.mem_singleton.1 hz; rfl) (by unfold maxLen; omega) (by omega) (Nat.zero_le _) ?_
                intro v9 w9 hown hgr hnw
                obtain ⟨a9, c9, rfl⟩ : ∃ a' c', v9 = .slice a' (k + 1) c' := by
                  obtain ⟨_, ⟨h, h0⟩ | ⟨g, cap, cur, hv, _⟩⟩ := hown
                  · omega
                  · exact ⟨_, _, hv⟩
                have lin := HL6.out.push hMw (Nat.le_refl _) hb68 hrow8 HR64.out hown hgr hnw
                have hm9 : w9.heap[M]? = _ := block_grown li8.row hgr (fun e => by have := (li8.new M (.inl e)).1; omega)
                have x5 := cell_of_row w9 M 5 _ _ _ hm9
                have f5 := frozen_of_row w9 M 5 _ _ hm9
                show K _ w9
                refine hK.out _ _ (.inr (HS9.out w9 w8 hb68 hgr x5)) ?_
                have HLIN := Lib.hid lin
                clear hK hown hgr hnw hhdr hj hjz0 hjz1 hjz2 hGn hb8 li8 hb68 hrow8 lin hm9 HL7 HL6 HB7 HROW7 HS HS9
                refine wpAnyZ_one (i := 10) (by kernel_rfl) rfl rfl (fun K hK => ?_)
                go_simp
                show K _ w9
                refine hK.out _ _ (.inl (by decide)) ?_
                clear hK
                refine wpAnyZ_one (i := 11) (by kernel_rfl) rfl rfl (fun K hK => ?_)
                go_simp
                show K _ w9
                refine hK.out _ _ (.inl (by decide)) ?_
                clear hK
                refine wpAnyZ_one (i := 12) (by kernel_rfl) rfl rfl (fun K hK => ?_)
                go_simp
                show K _ (w9.setCell ⟨M, 5, none⟩ (.slice a9 (k + 1) c9))
                refine hK.out _ _ (.inl (by decide)) ?_
                clear hK x5 f5
                refine wpAnyZ_done (by kernel_rfl) ?_ _
                go_wp2_with fail
                go_roundw
                case rel => exact ⟨k + 1, a9, k + 1, c9, vals ++ [(.slice ra n2 rc)], mem ++ [D1], by go_num, by omega, HMS.out.symm, HLIN.out⟩
                case measure => simp [intOf]; omega
        · have HKK := Lib.hid (show k = bl by omega)
          have HLK := Lib.hid li
          rw [List.drop_eq_nil_of_le (by rw [HBN.out]; omega)] at hrun
          obtain rfl : R = .ok mem := hrun.symm
          clear li
          go_wp2_with fail
          go_end0
          have h9 := HLK.out
          rw [HKK.out] at h9
          exact ⟨rfl, ma, ml, mc, vals, h9⟩
end Go.Proofs.Ytmlfeocdcjhhaaa
