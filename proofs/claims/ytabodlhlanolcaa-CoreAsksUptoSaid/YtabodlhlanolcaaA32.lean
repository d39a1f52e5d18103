import Derived.Test.YtabodlhlanolcaaA31
namespace Go.Proofs.Ytabodlhlanolcaa
set_option maxRecDepth 100000
open Go.RowKit Go.ChangeShapes Go.WideShapes
set_option linter.unusedVariables false
set_option linter.unusedSimpArgs false

/-! What the laws of cores need beside the walks. -/
theorem int_at {w : World} {a : Option Addr} {n c : Nat} {xs : List Int} (h : (Rep.int .i64).Sl w (.slice a n c) xs) : n = xs.length ∧ IntsAt .i64 w a xs := by
  obtain ⟨a', cap, e, hle, _, h2, h4⟩ := h
  cases e
  refine ⟨rfl, fun i hi => ?_⟩
  obtain ⟨b, off, cs, e, ⟨rfl, _⟩, hc⟩ := h4 i hi
  refine ⟨b, off, e, ?_⟩
  simpa [Rep.int, Rep.flat] using hc 0 (.int .i64 xs[i]) rfl
theorem opens_i64 : Opens 29 (Rep.int .i64).slice := opens_slice Try.underlying29 (by kernel_rfl) (by rw [show Try.prog.cellsOf 2 = 1 from by kernel_rfl]; decide) (opens_int Try.underlying2 (by kernel_rfl))
theorem CorAt.els {w : World} {vb vs vo : Value} {c : Cor} (h : CorAt w vb vs vo c) : ∃ ba bc sa sc oa oc, vb = .slice ba c.bufs.length bc ∧ vs = .slice sa c.steps.length sc ∧ vo = .slice oa c.outs.length oc ∧ CorEls w c ba sa oa ∧ c.steps.length ≤ sc ∧ (ba = none → c.bufs.length = 0 ∧ bc = 0) := by
  obtain ⟨⟨ba, bc, rfl, b1, b2, b3, hb⟩, ⟨sa, sc, rfl, s1, s2, -, hs⟩, ⟨oa, oc, rfl, o1, o2, -, ho⟩, _⟩ := h
  unfold maxLen at b2 s2 o2
  exact ⟨ba, bc, sa, sc, oa, oc, rfl, rfl, rfl, ⟨hb, by omega, hs, by omega, ho, by omega⟩, s1, fun e => by have := b3 e; omega⟩
/-- a core in a box, as a block -/
structure CB (w W : World) (x : Nat) (vars : Int) (vb vs vo : Value) : Prop where
  below : Below w.heap.size w W
  blk : W.heap[x]? = some (.cells #[.int .i64 vars, vb, vs, vo] 26 (0, 0))
theorem CB.next {w W W' : World} {x : Nat} {vars : Int} {vb vs vo : Value} (h : CB w W x vars vb vs vo) (hb : Below W.heap.size W W') : CB w W' x vars vb vs vo := ⟨bNext hb h.below, block_below h.blk hb⟩
theorem CB.rg {w W : World} {x : Nat} {vars : Int} {vb vs vo : Value} (h : CB w W x vars vb vs vo) : RgIn w W x vars vb vs vo := by
  have g0 := blockCells (cs := [.int .i64 vars, vb, vs, vo]) h.blk
  exact ⟨h.below, g0 0, g0 1, g0 2, g0 3, (Array.getElem?_eq_some_iff.1 h.blk).1⟩
theorem CB.new {w W : World} (hb : Below w.heap.size w W) (vars : Int) (vb vs vo : Value) : CB w (W.alloc (.cells #[.int .i64 vars, vb, vs, vo] 26)) W.heap.size vars vb vs vo := ⟨hb.alloc hb.size _, World.alloc_heap_new W _⟩
theorem CB.other {w W : World} {x : Nat} {vars : Int} {vb vs vo : Value} (h : CB w W x vars vb vs vo) {p : Addr} (hp : w.heap.size ≤ p.block) (hx : p.block ≠ x) (u : Value) : CB w (W.setCell p u) x vars vb vs vo := ⟨h.below.setCell hp u, block_other h.blk hx u⟩
theorem CB.put1 {w W : World} {x : Nat} {vars : Int} {vb vs vo : Value} (h : CB w W x vars vb vs vo) (hx : w.heap.size ≤ x) (u : Value) : CB w (W.setCell ⟨x, 1, none⟩ u) x vars u vs vo := ⟨h.below.setCell hx u, by rw [heap_setCell_same W x _ _ _ _ h.blk]; rfl⟩
theorem CB.put2 {w W : World} {x : Nat} {vars : Int} {vb vs vo : Value} (h : CB w W x vars vb vs vo) (hx : w.heap.size ≤ x) (u : Value) : CB w (W.setCell ⟨x, 2, none⟩ u) x vars vb u vo := ⟨h.below.setCell hx u, by rw [heap_setCell_same W x _ _ _ _ h.blk]; rfl⟩
theorem CB.fr {w W : World} {x : Nat} {vars : Int} {vb vs vo : Value} (h : CB w W x vars vb vs vo) (j : Nat) : W.frozen? ⟨x, j, none⟩ = false := frozen_of_row _ x j _ _ h.blk
theorem Rep.Els.take {α : Type} {R : Rep α} {w : World} {a : Option Addr} {xs : List α} (h : R.Els w a xs) (k : Nat) : R.Els w a (xs.take k) := fun i hi => by
  simp at hi
  obtain ⟨b, off, cs, e, h1, h2⟩ := h i (by omega)
  exact ⟨b, off, cs, e, by rw [List.getElem_take]; exact h1, h2⟩
theorem Src.below {w w' : World} {u : Value} {m : Nat} {news : List Value} (h : Src w u m news) (hb : Below w.heap.size w w') : Src w' u m news := by
  rcases h with h | ⟨ad, c, e, h⟩
  · exact .inl h
  · exact .inr ⟨ad, c, e, fun j z hz => keepCell hb (h j z hz)⟩
/-- cells that read as xs, one behind the other -/
def Rep.Cs {α : Type} (R : Rep α) (w : World) : List Value → List α → Prop
  | cs, [] => cs = []
  | cs, x :: xs => ∃ ds r, cs = ds ++ r ∧ R.At w ds x ∧ Rep.Cs R w r xs
section
variable {α : Type} {R : Rep α}
theorem Rep.Cs.len {w : World} : ∀ {xs : List α} {cs : List Value}, R.Cs w cs xs → cs.length = xs.length * R.n
  | [], cs, h => by subst h; simp
  | x :: xs, cs, ⟨ds, r, e, h1, h2⟩ => by subst e; rw [List.length_append, R.len _ _ _ h1, Rep.Cs.len h2, List.length_cons, Nat.succ_mul]; omega
theorem Rep.Cs.keep {w w' : World} (hb : Below w.heap.size w w') : ∀ {xs : List α} {cs : List Value}, R.Cs w cs xs → R.Cs w' cs xs
  | [], cs, h => h
  | x :: xs, cs, ⟨ds, r, e, h1, h2⟩ => ⟨ds, r, e, R.keep _ _ _ _ h1 hb, Rep.Cs.keep hb h2⟩
theorem Rep.Cs.one {w : World} : ∀ {xs : List α} {cs : List Value}, R.Cs w cs xs → ∀ v ∈ cs, v.oneCell' = true
  | [], cs, h, v, hv => by subst h; cases hv
  | x :: xs, cs, ⟨ds, r, e, h1, h2⟩, v, hv => by
    subst e
    rcases List.mem_append.1 hv with h | h
    · exact R.one _ _ _ h1 v h
    · exact Rep.Cs.one h2 v h
theorem Rep.Cs.append {w : World} {ys : List α} {ds : List Value} (hy : R.Cs w ds ys) : ∀ {xs : List α} {cs : List Value}, R.Cs w cs xs → R.Cs w (cs ++ ds) (xs ++ ys)
  | [], cs, h => by subst h; exact hy
  | x :: xs, cs, ⟨es, r, e, h1, h2⟩ => ⟨es, r ++ ds, by rw [e, List.append_assoc], h1, Rep.Cs.append hy h2⟩
theorem Rep.Cs.single {w : World} {x : α} {ds : List Value} (h : R.At w ds x) : R.Cs w ds [x] := ⟨ds, [], (List.append_nil _).symm, h, rfl⟩
theorem Rep.Cs.at {w : World} : ∀ {xs : List α} {cs : List Value}, R.Cs w cs xs → ∀ i, (hi : i < xs.length) → ∃ ds, R.At w ds xs[i] ∧ ∀ j v, ds[j]? = some v → cs[i * R.n + j]? = some v
  | x :: xs, cs, ⟨ds, r, e, h1, h2⟩, 0, hi => ⟨ds, h1, fun j v hj => by
    subst e
    rw [Nat.zero_mul, Nat.zero_add, List.getElem?_append_left (List.getElem?_eq_some_iff.1 hj).1]
    exact hj⟩
  | x :: xs, cs, ⟨ds, r, e, h1, h2⟩, i + 1, hi => by
    subst e
    obtain ⟨es, h3, h4⟩ := Rep.Cs.at h2 i (by simpa using hi)
    refine ⟨es, h3, fun j v hj => ?_⟩
    have hl := R.len _ _ _ h1
    rw [List.getElem?_append_right (by rw [hl, Nat.succ_mul]; omega), hl, show (i + 1) * R.n + j - R.n = i * R.n + j from by rw [Nat.succ_mul]; omega]
    exact h4 j v hj
theorem Rep.Cs.of {w : World} (hn : 0 < R.n) : ∀ (xs : List α) (f : Nat → Option Value) (i0 : Nat), (∀ i, (h : i < xs.length) → ∃ ds, R.At w ds xs[i] ∧ ∀ j v, ds[j]? = some v → f ((i0 + i) * R.n + j) = some v) → ∃ cs, R.Cs w cs xs ∧ ∀ j v, cs[j]? = some v → f (i0 * R.n + j) = some v
  | [], f, i0, h => ⟨[], rfl, fun j v hj => by cases hj⟩
  | x :: xs, f, i0, h => by
    obtain ⟨ds, h1, h2⟩ := h 0 (Nat.zero_lt_succ _)
    obtain ⟨r, h3, h4⟩ := Rep.Cs.of hn xs f (i0 + 1) fun i hi => by
      obtain ⟨es, h5, h6⟩ := h (i + 1) (Nat.succ_lt_succ hi)
      exact ⟨es, h5, fun j v hj => by rw [show i0 + 1 + i = i0 + (i + 1) from by omega]; exact h6 j v hj⟩
    have hl := R.len _ _ _ h1
    refine ⟨ds ++ r, ⟨ds, r, rfl, h1, h3⟩, fun j v hj => ?_⟩
    by_cases hjl : j < ds.length
    · rw [List.getElem?_append_left hjl] at hj
      exact h2 j v hj
    · rw [List.getElem?_append_right (by omega), hl] at hj
      have := h4 _ _ hj
      rw [Nat.succ_mul] at this
      rw [show i0 * R.n + j = i0 * R.n + R.n + (j - R.n) from by omega]
      exact this
theorem Rep.Els.cs {w : World} {a : Option Addr} {n c : Nat} {xs : List α} (hn : 0 < R.n) (h : R.Els w a xs) (hnl : n = xs.length) (ha : a = none → n = 0 ∧ c = 0) : ∃ cs, R.Cs w cs xs ∧ Src w (.slice a n c) n cs := by
  subst hnl
  cases a with
  | none =>
    obtain ⟨h0, hc⟩ := ha rfl
    have : xs = [] := List.eq_nil_of_length_eq_zero h0
    subst this hc
    exact ⟨[], rfl, .inl ⟨rfl, rfl, rfl⟩⟩
  | some ad =>
    obtain ⟨cs, h1, h2⟩ := Rep.Cs.of (w := w) hn xs (fun j => w.cell? (ad.add j)) 0 fun i hi => by
      obtain ⟨b, off, ds, e, h3, h4⟩ := h i hi
      cases e
      refine ⟨ds, h3, fun j v hj => ?_⟩
      have e : ∀ k, (⟨b, off, none⟩ : Addr).add k = ⟨b, off + k, none⟩ := fun k => by unfold Addr.add; split <;> simp_all
      rw [Nat.zero_add, e, ← Nat.add_assoc]
      exact h4 j v hj
    exact ⟨cs, h1, .inr ⟨ad, c, rfl, fun j z hz => by have := h2 j z hz; rwa [Nat.zero_mul, Nat.zero_add] at this⟩⟩
/-- a row of the call's own whose cells read as xs -/
theorem Rep.Cs.els {B : Nat} {W w : World} {t : TypeId} {n : Nat} {v : Value} {cs : List Value} {xs : List α} (ho : W.ownsRow B t R.n v n cs) (h : R.Cs W cs xs) (hn : n = xs.length) : ∃ a c, v = .slice a n c ∧ R.Els W a xs := by
  obtain ⟨h1, ⟨rfl, rfl⟩ | ⟨g, cap, cur, rfl, hB, hg, h3⟩⟩ := id ho
  · have : xs = [] := List.eq_nil_of_length_eq_zero hn.symm
    subst this
    exact ⟨none, 0, rfl, Rep.Els.nil _ _ _⟩
  · refine ⟨some ⟨g, 0, none⟩, cap, rfl, fun i hi => ?_⟩
    obtain ⟨ds, h4, h5⟩ := h.at i hi
    have hc := World.ownsRow.cells (g := g) (w := W) ho rfl
    have e : ∀ k, (⟨g, 0, none⟩ : Addr).add k = ⟨g, k, none⟩ := fun k => by unfold Addr.add; split <;> simp_all
    exact ⟨g, 0, ds, rfl, h4, fun j z hj => by rw [Nat.zero_add, ← e]; exact hc _ _ (h5 j z hj)⟩
end
end Go.Proofs.Ytabodlhlanolcaa
