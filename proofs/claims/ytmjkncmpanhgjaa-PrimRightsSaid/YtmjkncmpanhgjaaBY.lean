import Derived.Test.YtmjkncmpanhgjaaBZ
import Derived.SizedLaws
namespace Go
section
variable {P : Program} {ops : Array Oper} {Q : Exit → Act → World → Prop} {md : Region.Mode} {S : World → Prop} {z : Nat}
theorem wpAnyZ_threeG {i j l : Nat} {o p q : Oper} {fuel : Nat} {listed : Array Bool} {a : Act} {w : World} (hr : Region.ready md ops listed = [i, j, l]) (ho : ops[i]? = some o) (hp : ops[j]? = some p) (hq : ops[l]? = some q)
    (hg : Region.wanted o (yielded ops a.tmps) = true) (hk : Region.wanted p (yielded ops a.tmps) = true) (hl : Region.wanted q (yielded ops a.tmps) = true)
    (h : ∀ K : Act → World → Prop, Shut (∀ a w, (z ≤ i ∨ S w) → wpAnyZ P md ops Q S z fuel (listed.setIfInBounds i true) a w → K a w) → o.wp P a w K Q)
    (h2 : ∀ K : Act → World → Prop, Shut (∀ a w, (z ≤ j ∨ S w) → wpAnyZ P md ops Q S z fuel (listed.setIfInBounds j true) a w → K a w) → p.wp P a w K Q)
    (h3 : ∀ K : Act → World → Prop, Shut (∀ a w, (z ≤ l ∨ S w) → wpAnyZ P md ops Q S z fuel (listed.setIfInBounds l true) a w → K a w) → q.wp P a w K Q) : wpAnyZ P md ops Q S z (fuel + 1) listed a w := by
  refine ⟨fun h0 => (by rw [hr] at h0; cases h0), fun k hk' => ?_⟩
  rw [hr] at hk'
  have hk2 : k = i ∨ k = j ∨ k = l := by simpa using hk'
  rcases hk2 with rfl | rfl | rfl
  · unfold wpOp
    rw [ho]
    simp only [hg, if_true]
    exact .inl (h _ (fun a w h1 h2 => ⟨h1, h2⟩))
  · unfold wpOp
    rw [hp]
    simp only [hk, if_true]
    exact .inl (h2 _ (fun a w h1 h2 => ⟨h1, h2⟩))
  · unfold wpOp
    rw [hq]
    simp only [hl, if_true]
    exact .inl (h3 _ (fun a w h1 h2 => ⟨h1, h2⟩))
end
end Go
namespace Go.Proofs.Ytmjkncmpanhgjaa
set_option maxRecDepth 100000
open Go.RowKit Go.ChangeShapes Go.WideShapes Go.Deep Go.Joins
set_option linter.unusedVariables false
set_option linter.unusedSimpArgs false

/-! Arrays that are handed in, and how long their sides may be. -/
section
variable {H : Type} {enc : TypeId × Value → H} {w : World} {base : Nat} {spare : Nat → Bool} {held : Bool}
theorem slice_weight {n l c : Nat} {a : Option Addr} {y : DataW H × List MemPlace} (h : DataW.trod enc Try.prog w base spare held n 22 [.slice a l c] = some y) (hw : ∀ k ∈ y.1.weights Try.prog 22, k ≤ reachBytes) : l ≤ 17592186043904 := by
  rcases open_slice Try.underlying22 h with ⟨hcs, _⟩ | ⟨a', len, cap, m, n', D, Pl, hcs, _, hl, hm, hmm, rfl, _⟩
  · simp at hcs
    omega
  · simp only [List.cons.injEq, Value.slice.injEq, and_true] at hcs
    obtain ⟨_, rfl, _⟩ := hcs
    have h8 : Try.prog.bytesOf 2 = 8 := by kernel_rfl
    have := hw ((((List.range l).map D).length + ((List.range (m - l)).map fun j => D (l + j)).length) * Try.prog.bytesOf 2) (by
      simp only [DataW.weights, Try.underlying22]
      exact List.mem_cons_self)
    rw [h8, List.length_map, List.length_range] at this
    unfold reachBytes at this
    omega
theorem arr_weights {ya yb : DataW H} (h : ∀ n ∈ (DataW.agg [ya, yb]).weights Try.prog 24, n ≤ reachBytes) : (∀ n ∈ ya.weights Try.prog 22, n ≤ reachBytes) ∧ ∀ n ∈ yb.weights Try.prog 22, n ≤ reachBytes := by
  have e : (DataW.agg [ya, yb]).weights Try.prog 24 = ya.weights Try.prog 22 ++ (yb.weights Try.prog 22 ++ []) := by
    simp only [DataW.weights, Try.underlying24]
    rfl
  rw [e] at h
  exact ⟨fun n hn => h n (List.mem_append_left _ hn), fun n hn => h n (List.mem_append_right _ (List.mem_append_left _ hn))⟩
theorem SlA.len {w : World} {a : Option Addr} {n c : Nat} {xs : List Int} (h : SlA w (.slice a n c) xs) : xs.length = n := by
  obtain ⟨_, _, e, _⟩ := h
  simp only [Value.slice.injEq] at e
  exact e.2.1.symm
theorem open_arrS {v : Value} {d : DataW H} {p : List MemPlace} {r : Reach} {b0 : Nat} (hv : Value.okWide Try.prog w r b0 24 v) (h : DataW.Trod enc Try.prog w base spare held 24 v d p) :
    ∃ s ds va vb, v = .agg #[va, vb] ∧ SlA w va s ∧ SlA w vb ds ∧ ((∀ n ∈ d.weights Try.prog 24, n ≤ reachBytes) → s.length ≤ 17592186043904 ∧ ds.length ≤ 17592186043904) := by
  obtain ⟨va, vb, ya, yb, n, rfl, rfl, -, ta, tb⟩ := open_agg2 Try.underlying24 (by kernel_rfl) (by kernel_rfl) hv h
  obtain ⟨xs, hx⟩ := sla_of_trod ta
  obtain ⟨ys, hy⟩ := sla_of_trod tb
  refine ⟨xs, ys, va, vb, rfl, hx, hy, fun hw => ?_⟩
  obtain ⟨w1, w2⟩ := arr_weights hw
  have f1 := hx
  have f2 := hy
  obtain ⟨a, c, rfl, _⟩ := f1
  obtain ⟨a', c', rfl, _⟩ := f2
  exact ⟨slice_weight ta w1, slice_weight tb w2⟩
end
/-! copies -/
/-- an empty row, newly made -/
def Empty (M : Nat) (W : World) (g : Nat) : Prop := RowI M W (.slice (some ⟨g, 0, none⟩) 0 0) []
theorem Empty.new {M : Nat} {W : World} {g : Nat} (hM : M ≤ W.heap.size) (hg : W.heap.size = g) : Empty M (W.alloc (.cells #[] 2)) g := by
  subst hg
  exact World.ownsRow_made W #[] 0 hM (Nat.zero_le _) rfl
theorem Empty.below {M : Nat} {W W' : World} {g : Nat} (h : Empty M W g) (hb : Below W.heap.size W W') : Empty M W' g := RowI.below h hb
theorem Empty.grown {M : Nat} {W W' : World} {g k : Nat} (h : Empty M W g) (hg : W.grownBy W' (some k)) (hne : g ≠ k) : Empty M W' g := World.ownsRow.kept h hg (.inr (by simp [Value.ownBlock]; exact hne))
theorem Empty.ty {M : Nat} {W : World} {g : Nat} (h : Empty M W g) : ∃ cur, W.heap[g]? = some (.cells cur 2 (0, 0)) := own_typed h rfl
theorem Empty.ge {M : Nat} {W : World} {g : Nat} (h : Empty M W g) : M ≤ g := (h.lt g rfl).1
theorem Empty.lt {M : Nat} {W : World} {g : Nat} (h : Empty M W g) : g < W.heap.size := (World.ownsRow.lt h g rfl).2
theorem Boxed.grown {W W' : World} {R k : Nat} (h : Boxed W R) (hg : W.grownBy W' (some k)) (ht : ∃ cur, W.heap[k]? = some (.cells cur 2 (0, 0))) : Boxed W' R := by
  refine block_grown h hg fun e => ?_
  simp at e
  subst e
  obtain ⟨cur, ht⟩ := ht
  unfold Boxed at h
  rw [h] at ht
  cases ht
theorem wp_copy {o : Oper} {a : Act} {w : World} {K : Act → World → Prop} {Q : Exit → Act → World → Prop} (s x : Operand) (ho : o.op = .call { callee := .builtin .append, args := #[s, x], argTypes := #[22, 22] })
    (M g : Nat) (ys : List Int) (u : Value) (hs : a.eval s = .slice (some ⟨g, 0, none⟩) 0 0) (hv : Empty M w g) (hx : a.eval x = u) (hu : Src w u ys.length (ys.map (Value.int .i64)))
    (hl : ys.length ≤ 17592186043904) (hB : M ≤ w.heap.size) (h : ∀ v' w', RowI M w' v' ys → w.grownBy w' (some g) → (v'.ownBlock = some g ∨ ∃ k, v'.ownBlock = some k ∧ w.heap.size ≤ k) → K (a.put o.dst v') w') : o.wp Try.prog a w K Q := by
  obtain ⟨i0, hi, hz0, hz1, hz2⟩ := info_parts Try.info2
  refine wp_append_src _ s x 22 ho M 2 i0 _ 1 8 Try.underlying22 hi hz0 hz1 hz2 rfl (by decide) _ 0 [] hs hv u ys.length _ hx hu (by simp) (by intro z hz; obtain ⟨p, _, rfl⟩ := List.mem_map.1 hz; rfl) (by unfold maxLen; omega) (by omega) hB ?_
  intro v' w' hown hg hn
  refine h v' w' ?_ hg hn
  unfold RowI
  simpa using hown
theorem RowI.ne_new {M : Nat} {W : World} {v : Value} {xs : List Int} {g : Nat} (h : RowI M W v xs) (hg : W.heap.size ≤ g) : v.ownBlock ≠ some g := fun e => by
  have := (World.ownsRow.lt h g e).2
  omega
theorem newer_ne {W : World} {v : Value} {g k : Nat} (h : v.ownBlock = some g ∨ ∃ j, v.ownBlock = some j ∧ W.heap.size ≤ j) (hne : g ≠ k) (hk : k < W.heap.size) : v.ownBlock ≠ some k := fun e => by
  rcases h with h | ⟨j, h, hj⟩
  · rw [h] at e; cases e; exact hne rfl
  · rw [h] at e; cases e; omega
/-! rows that are written over -/
structure Since (w W : World) : Prop where
  b : Below w.heap.size w W
theorem Since.next {w W W' : World} (h : Since w W) (hb : Below W.heap.size W W') : Since w W' := ⟨bNext hb h.b⟩
def RowW (M : Nat) (W : World) (v : Value) (n : Nat) : Prop := ∃ xs : List Int, xs.length = n ∧ RowI M W v xs
theorem RowW.below {M n : Nat} {W W' : World} {v : Value} (h : RowW M W v n) (hb : Below W.heap.size W W') : RowW M W' v n := by obtain ⟨xs, e, h⟩ := h; exact ⟨xs, e, h.below hb⟩
theorem RowW.at {M n c : Nat} {W : World} {a : Option Addr} (h : RowW M W (.slice a n c) n) {j : Nat} (hj : j < n) :
    ∃ g x, a = some ⟨g, 0, none⟩ ∧ M ≤ g ∧ W.cell? ⟨g, j, none⟩ = some (.int .i64 x) ∧ W.frozen? ⟨g, j, none⟩ = false ∧ ∃ cur, W.heap[g]? = some (.cells cur 2 (0, 0)) := by
  obtain ⟨xs, hx, h⟩ := h
  subst hx
  obtain ⟨g, cap, e, hg, _⟩ := h.form (by omega)
  rw [e] at h
  have hc := World.ownsRow.cellAt h j (by simpa using hj)
  simp only [Value.slice.injEq] at e
  refine ⟨g, xs[j], e.1, hg, ?_, World.ownsRow.frozenAt h j, own_typed h rfl⟩
  rw [hc]; simp [hj]
theorem RowW.set {M n : Nat} {W : World} {v : Value} (h : RowW M W v n) (g j : Nat) (x : Int) : RowW M (W.setCell ⟨g, j, none⟩ (.int .i64 x)) v n := by
  obtain ⟨xs, hx, h⟩ := h
  by_cases he : v.ownBlock = some g
  · obtain ⟨_, ⟨rfl, _⟩ | ⟨g', cap, cur, rfl, hg, hh, h3⟩⟩ := id h
    · cases he
    · cases he
      refine ⟨xs.set j x, by rw [List.length_set]; exact hx, ?_⟩
      have h2 := (World.ownsRow.stored (w := W) h j (.int .i64 x)).1
      unfold RowI
      rw [List.length_set, List.map_set]
      exact h2
  · exact ⟨xs, hx, own_other (p := ⟨g, j, none⟩) h (fun g' e e2 => he (by rw [e, e2])) _⟩
/-- what a call told: its box, its rows -/
structure KeptW (M : Nat) (W : World) (b : Nat) (v u : Value) (s d : List Int) : Prop where
  k : KeptR W b v u s d
  rv : RowW M W v s.length
  ru : RowW M W u d.length
theorem KeptW.next {M : Nat} {W W' : World} {b : Nat} {v u : Value} {s d : List Int} (h : KeptW M W b v u s d) (hb : Below W.heap.size W W') : KeptW M W' b v u s d := ⟨h.k.next hb, h.rv.below hb, h.ru.below hb⟩
theorem KeptW.new {M : Nat} {W : World} {b : Nat} {v u : Value} {s d : List Int} (hb : W.heap.size = b) (hv : RowI M W v s) (hu : RowI M W u d) (i1 : ∀ x ∈ s, In64 x) (i2 : ∀ x ∈ d, In64 x) : KeptW M (W.alloc (.cells #[v, u] 24)) b v u s d :=
  have h1 : Below W.heap.size W (W.alloc (.cells #[v, u] 24)) := (Below.refl _ _).alloc (Nat.le_refl _) _
  ⟨KeptR.new hb (hv.mono (Nat.zero_le _)) (hu.mono (Nat.zero_le _)) i1 i2, ⟨s, rfl, hv.below h1⟩, ⟨d, rfl, hu.below h1⟩⟩
theorem ret_own2 {B M : Nat} {S D : List Int} {E : Int} {e : Ending} {w : World} (h : RetArr B ((S, D), E) e w) (hM : M ≤ B) :
    ∃ a c a' c', e = .returned (.tuple #[.agg #[.slice a S.length c, .slice a' D.length c'], .int .i64 E]) ∧ RowI M w (.slice a S.length c) S ∧ RowI M w (.slice a' D.length c') D := by
  obtain ⟨v, u, rfl, hv, hu, -⟩ := h
  obtain ⟨a, c, rfl, -, -⟩ := hv.slice
  obtain ⟨a', c', rfl, -, -⟩ := hu.slice
  exact ⟨a, c, a', c', rfl, hv.mono hM, hu.mono hM⟩
abbrev Sl3 := Option Addr × Nat × Nat
def sl3 (x : Sl3) : Value := .slice x.1 x.2.1 x.2.2
/-- the rows of all answers, and the slice of them -/
structure AllW (M : Nat) (W : World) (z : Nat) (l : List Sl3) : Prop where
  blk : W.heap[z]? = some (.cells (l.map sl3).toArray 24 (0, 0))
  row : ∀ x ∈ l, RowW M W (sl3 x) x.2.1
theorem AllW.next {M z : Nat} {W W' : World} {l : List Sl3} (h : AllW M W z l) (hb : Below W.heap.size W W') : AllW M W' z l := ⟨block_below h.blk hb, fun x hx => (h.row x hx).below hb⟩
theorem AllW.set {M z g : Nat} {W : World} {l : List Sl3} (h : AllW M W z l) (hg : ∃ cur, W.heap[g]? = some (.cells cur 2 (0, 0))) (j : Nat) (x : Int) : AllW M (W.setCell ⟨g, j, none⟩ (.int .i64 x)) z l := by
  refine ⟨?_, fun y hy => (h.row y hy).set g j x⟩
  refine block_other h.blk (fun e => ?_) _
  obtain ⟨cur, hg⟩ := hg
  have hb := h.blk
  simp only at e
  rw [e] at hg
  rw [hg] at hb
  cases hb
theorem AllW.cell {M z : Nat} {W : World} {l : List Sl3} (h : AllW M W z l) (j : Nat) (hj : j < l.length) : W.cell? ⟨z, j, none⟩ = some (sl3 l[j]) := by
  rw [cell_of_row W z j _ _ _ h.blk]
  simp [hj]
end Go.Proofs.Ytmjkncmpanhgjaa
