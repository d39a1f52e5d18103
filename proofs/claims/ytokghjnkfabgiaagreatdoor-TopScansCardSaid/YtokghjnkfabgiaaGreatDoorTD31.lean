import Derived.Test.YtokghjnkfabgiaaGreatDoorTD29
import Derived.Test.YtokghjnkfabgiaaGreatDoorTD30
import Derived.Test.YtokghjnkfabgiaaGreatDoorTD22
set_option linter.unusedVariables false
set_option linter.unusedSimpArgs false
set_option maxRecDepth 100000
namespace Go.Proofs.YtokghjnkfabgiaaGreatDoor
open Go.RowKit Go.Lib

def SlK (B0 : Nat) (w : World) (v : Value) (xs : List Int) : Prop := (SlA w v xs ∧ (0 < xs.length → ∀ b o f n c, v = .slice (some ⟨b, o, f⟩) n c → b < B0)) ∨ (RowI 0 w v xs ∧ ∀ x ∈ xs, In64 x)
section
variable {B0 : Nat} {w w' : World} {v : Value} {xs : List Int}
theorem SlK.sl (h : SlK B0 w v xs) : SlA w v xs := by
 rcases h with h | ⟨h, h5⟩
 ·exact h.1
 ·exact h.sl h5
theorem SlK.in64 (h : SlK B0 w v xs) : ∀ x ∈ xs, In64 x := by
 obtain ⟨a, c, e, h1, h2, h3, h4, h5⟩ := h.sl
 exact h5
theorem SlK.form (h : SlK B0 w v xs) : ∃ a c, v = .slice a xs.length c := h.sl.form'
theorem SlK.below (h : SlK B0 w v xs) (hb : Below w.heap.size w w') : SlK B0 w' v xs := by
 rcases h with ⟨h, h2⟩ | ⟨h, h5⟩
 ·exact .inl ⟨h.below hb, h2⟩
 ·exact .inr ⟨h.below hb, h5⟩
theorem SlK.turn (h : SlK B0 w v xs) (hb : Below B0 w w') (hk : KeepTy 2 w w') : SlK B0 w' v xs := by
 rcases h with ⟨h, h2⟩ | ⟨h, h5⟩
 ·refine .inl ⟨?_, h2⟩
  obtain ⟨a, c, e, h1, h3, h4, hi, h5⟩ := h
  refine ⟨a, c, e, h1, h3, h4, fun i hi' => ?_, h5⟩
  obtain ⟨b, f, ha, hc⟩ := hi i hi'
  subst ha
  exact ⟨b, f, rfl, (hb.cell (p := ⟨b, f + i, none⟩) (h2 (by omega) _ _ _ _ _ e)).trans hc⟩
 ·exact .inr ⟨h.keepTy hk, h5⟩
theorem SlK.old (h : SlA w v xs) (hB : w.heap.size ≤ B0) : SlK B0 w v xs := by
 refine .inl ⟨h, fun h0 b o f n c e => ?_⟩
 obtain ⟨a, c', e', h1, h3, h4, hi, h5⟩ := h
 rw [e] at e'
 simp only [Value.slice.injEq] at e'
 obtain ⟨b', f', ha, hc⟩ := hi 0 h0
 rw [← e'.1] at ha
 simp only [Option.some.injEq, Addr.mk.injEq] at ha
 have := World.block_lt_of_cell? w _ hc
 have : b' < w.heap.size := this
 omega
theorem SlK.own {B : Nat} (h : RowI B w v xs) (h5 : ∀ x ∈ xs, In64 x) : SlK B0 w v xs := .inr ⟨own_mono h (Nat.zero_le _), h5⟩
end
def arrK (B0 : Nat) : Rep AryP where
 n := 2
 At w cs x := ∃ v u, cs = [v, u] ∧ SlK B0 w v x.1 ∧ SlK B0 w u x.2
 len := by rintro w cs x ⟨v, u, rfl, _⟩; rfl
 keep := by rintro w w' cs x ⟨v, u, rfl, h, h2⟩ hb; exact ⟨v, u, rfl, h.below hb, h2.below hb⟩
 one := by
  rintro w cs x ⟨v, u, rfl, h, h2⟩ z hz
  obtain ⟨a, c, rfl⟩ := h.form
  obtain ⟨a, c, rfl⟩ := h2.form
  simp at hz
  rcases hz with rfl | rfl <;> rfl
theorem keep_arrK (B0 B : Nat) (h : B0 ≤ B) : KeepR (arrK B0) B 44 := by
 rintro w w' hb hk cs x ⟨v, u, e, h1, h2⟩
 exact ⟨v, u, e, h1.turn (hb.mono h) (hk _ (by decide)), h2.turn (hb.mono h) (hk _ (by decide))⟩
abbrev StkI (B0 M : Nat) (w : World) (v : Value) (l : List AryP) : Prop := RowG (arrK B0) M 44 w v l
theorem StkI.turn {B0 M : Nat} {w w' : World} {v : Value} {l : List AryP} (h : StkI B0 M w v l) (hb : Below B0 w w') (hk : KeepTy 2 w w') (hk2 : KeepTy 44 w w') : StkI B0 M w' v l :=
 h.same (by rintro cs x ⟨v, u, e, h1, h2⟩; exact ⟨v, u, e, h1.turn hb hk, h2.turn hb hk⟩) hk2
theorem stk_at {B0 M : Nat} {w : World} {a : Option Addr} {n c : Nat} {l : List AryP} (h : StkI B0 M w (.slice a n c) l) (k : Nat) (hk : k < l.length) :
  ∃ g v u, a = some ⟨g, 0, none⟩ ∧ M ≤ g ∧ SlK B0 w v l[k].1 ∧ SlK B0 w u l[k].2 ∧ w.cell? ⟨g, k * 2, none⟩ = some v ∧ w.cell? ⟨g, k * 2 + 1, none⟩ = some u := by
 obtain ⟨cs, h1, h2⟩ := h
 obtain ⟨_, ⟨hv, h0⟩ | ⟨g, cap, cur, hv, hB, hg, _⟩⟩ := id h1
 ·omega
 ·simp only [Value.slice.injEq] at hv
  obtain ⟨rfl, -, -⟩ := hv
  obtain ⟨ds, ⟨v, u, e, hv, hu⟩, hx⟩ := Rep.Cs.at h2 k hk
  subst e
  have hc := h1.cells (g := g) rfl
  refine ⟨g, v, u, rfl, hB, hv, hu, ?_, ?_⟩
  ·have h := hc _ _ (hx 0 v rfl)
   have e : (Addr.mk g 0 none).add (k * (arrK B0).n + 0) = ⟨g, k * 2, none⟩ := by
    show (Addr.mk g 0 none).add (k * 2 + 0) = _
    unfold Addr.add; split <;> simp_all
   rwa [e] at h
  ·have h := hc _ _ (hx 1 u rfl)
   have e : (Addr.mk g 0 none).add (k * (arrK B0).n + 1) = ⟨g, k * 2 + 1, none⟩ := by
    show (Addr.mk g 0 none).add (k * 2 + 1) = _
    unfold Addr.add; split <;> simp_all
   rwa [e] at h
theorem Rep.Cs.take {α : Type} {R : Rep α} {w : World} : ∀ (k : Nat) {xs : List α} {cs : List Value}, R.Cs w cs xs → R.Cs w (cs.take (k * R.n)) (xs.take k)
 | 0, xs, cs, h => by rw [Nat.zero_mul]; exact rfl
 | k + 1, [], cs, h => by subst h; rw [List.take_nil]; exact rfl
 | k + 1, x :: xs, cs, ⟨ds, r, e, h1, h2⟩ => by
  subst e
  have hl := R.len _ _ _ h1
  refine ⟨ds, r.take (k * R.n), ?_, h1, Rep.Cs.take k h2⟩
  rw [List.take_append, hl, show (k + 1) * R.n - R.n = k * R.n from by rw [Nat.succ_mul]; omega, List.take_of_length_le (by rw [hl, Nat.succ_mul]; omega)]
section
variable {α : Type}
theorem wp_pushP {R : Rep α} {o : Oper} {a : Act} {w : World} {K : Act → World → Prop} {Q : Exit → Act → World → Prop} (s x : Operand) (ts t : TypeId) (ho : o.op = .call { callee := .builtin .append, args := #[s, x], argTypes := #[ts, ts] })
  (z : Value) (bytes : Nat) (ht : Tryz.prog.underlying ts = some (.slice t)) (hi : (Tryz.prog.info? t).map (fun i => (i.zero, i.size, i.bytes)) = some (some z, R.n, bytes)) (hz : z.cells.size = R.n) (hn : 0 < R.n)
  (M G : Nat) (ad : Option Addr) (n c k : Nat) (xs : List α) (y : α) (cs : Array Value) (hs : a.eval s = .slice ad k k) (hv : RowG R M t w (.slice ad n c) xs) (hk : k ≤ xs.length) (hk0 : ad = none → k = 0) (hx : a.eval x = .slice (some ⟨G, 0, none⟩) 1 1) (hG : w.heap[G]? = some (.cells cs t (0, 0))) (hy : R.At w cs.toList y)
  (hl : k + 1 ≤ maxLen) (hby : (k + 1) * bytes ≤ 140737488355328)
  (h : ∀ v' w', RowG R w.heap.size t w' v' (xs.take k ++ [y]) → Below w.heap.size w w' → K (a.put o.dst v') w') : o.wp Tryz.prog a w K Q := by
 obtain ⟨i0, hi0, hz0, hz1, hz2⟩ := info_parts hi
 subst hz2
 have hsmall : k + 1 ≤ 9223372036854775807 := by simp only [maxLen] at hl; omega
 have hylen : cs.toList.length = 1 * i0.size := by rw [Nat.one_mul, hz1]; exact R.len _ _ _ hy
 have hynews : ∀ j u, cs.toList[j]? = some u → w.cell? ((⟨G, 0, none⟩ : Addr).add j) = some u := fun j u hu => by
  have e : (⟨G, 0, none⟩ : Addr).add j = ⟨G, j, none⟩ := by unfold Addr.add; split <;> simp_all
  rw [e, cell_of_row _ _ j _ _ _ hG]
  simpa using hu
 obtain ⟨ds, h1, h2⟩ := hv
 have hge := grownCap_ge w (k + 1) k t
 have hcm : grownCap w (k + 1) k t ≤ maxLen := grownCap_le_maxLen w (k + 1) k t hl
 have hnone : ad = none → xs.take k = [] := fun e => by rw [hk0 e]; exact List.take_zero
 have hpre : ∃ es, R.Cs w es (xs.take k) ∧ (ad = none → es = []) ∧ ∀ b, ad = some b → ∀ j u, es[j]? = some u → w.cell? (b.add j) = some u := by
  refine ⟨ds.take (k * R.n), Rep.Cs.take k h2, fun e => by rw [hk0 e, Nat.zero_mul]; exact List.take_zero, fun b e j u hu => ?_⟩
  subst e
  obtain ⟨_, ⟨hv, h0⟩ | ⟨g, cap, cur, hv, hB, hg, _⟩⟩ := id h1
  ·cases hv
  ·simp only [Value.slice.injEq, Option.some.injEq] at hv
   obtain ⟨rfl, -, -⟩ := hv
   refine h1.cells (g := g) rfl j u ?_
   rw [List.getElem?_take] at hu
   split at hu
   ·exact hu
   ·cases hu
 obtain ⟨es, hes, hesn, hesc⟩ := hpre
 have hel : es.length = k * i0.size := by rw [hes.len, List.length_take, Nat.min_eq_left hk, hz1]
 have hfin : ∀ w1 : World, w1 = w.drew.alloc (.cells (es.toArray ++ cs.toList.toArray ++ Builtin.zeroCells z.cells (grownCap w (k + 1) k t - (k + 1))) t) → K (a.put o.dst (.slice (some ⟨w.heap.size, 0, none⟩) (k + 1) (grownCap w (k + 1) k t))) w1 := by
  rintro w1 rfl
  have hbel : Below w.heap.size w (w.drew.alloc (.cells (es.toArray ++ cs.toList.toArray ++ Builtin.zeroCells z.cells (grownCap w (k + 1) k t - (k + 1))) t)) := ((Below.refl _ w).drew).alloc (by simp) _
  refine h _ _ ⟨es ++ cs.toList, ⟨?_, .inr ⟨w.heap.size, _, _, ?_, Nat.le_refl _, heap_alloc_new w.drew _, ?_, hcm, ?_, ?_⟩⟩, Rep.Cs.append (Rep.Cs.single (R.keep _ _ _ _ hy hbel)) (hes.keep hbel)⟩ hbel
  ·rw [List.length_append, List.length_append, hel, hylen, List.length_take, Nat.min_eq_left hk, List.length_singleton, hz1, Nat.add_mul]
  ·rw [List.length_append, List.length_take, Nat.min_eq_left hk, List.length_singleton]
  ·rw [List.length_append, List.length_take, Nat.min_eq_left hk, List.length_singleton]; exact hge
  ·simp only [Array.size_append, List.size_toArray, size_zeroCells, hz, hel, hylen, hz1, ← Nat.add_mul]
   congr 1
   omega
  ·simp only [Array.toList_append, List.append_assoc]
   rw [← List.append_assoc]
   have : (es ++ cs.toList).length = (xs.take k ++ [y]).length * R.n := by rw [List.length_append, List.length_append, hel, hylen, List.length_take, Nat.min_eq_left hk, List.length_singleton, hz1, Nat.add_mul]
   rw [← this]
   exact List.take_left
 unfold Oper.wp execOp
 cases ad with
 | none =>
  obtain rfl : k = 0 := hk0 rfl
  obtain rfl : es = [] := hesn rfl
  have hr := run_append_nil (P := Tryz.prog) w ts o.type t i0 z ht hi0 hz0 ⟨G, 0, none⟩ 1 1 cs.toList hylen hynews (by omega) (by omega) (by omega)
  simp only [ho, resolve, invoke, builtin, Sem.run_bind, Sem.run_pure, Result.andThen_ok, List.map_toArray, List.map_cons, List.map_nil, hs, hx, hr]
  exact hfin _ (by simp)
 | some b =>
  have hr := run_append_grow (P := Tryz.prog) w ts o.type t i0 z ht hi0 hz0 b k k es hel (hesc b rfl) ⟨G, 0, none⟩ 1 1 cs.toList hylen hynews (by omega) (by omega) (growslice_fits (by omega) hby)
  simp only [ho, resolve, invoke, builtin, Sem.run_bind, Sem.run_pure, Result.andThen_ok, List.map_toArray, List.map_cons, List.map_nil, hs, hx, hr]
  exact hfin _ rfl
end
end Go.Proofs.YtokghjnkfabgiaaGreatDoor

namespace Go.Proofs.YtokghjnkfabgiaaGreatDoor
open Go.RowKit Go.Lib
attribute [local go_sem] str_size str_get str_toList

theorem okO_eq {t t' : Nat} {r : ArrE} {a : AryP} (h : okO t r = some (t', a)) : t' = t ∧ r = (a, 0) := by
 unfold okO at h
 split at h
 ·rename_i h0
  simp only [Option.some.injEq, Prod.mk.injEq] at h
  obtain ⟨rfl, rfl⟩ := h
  exact ⟨rfl, by rw [← h0]⟩
 ·cases h
structure ItH (B0 R B n k : Nat) (MV : Str → Option Value) (M : Str → Option AryP) (hv : Value) (st : List AryP) (w : World) : Prop where
 run : w.heap[R]? = some (.cells #[.map (some B), .int .i64 (k : Int)] 131 (0, 0))
 hR : B0 ≤ R
 map : MapV zeroArr B n MV w
 vals : ∀ s a, M s = some a → ∃ v u, MV s = some (.agg #[v, u]) ∧ SlK B0 w v a.1 ∧ SlK B0 w u a.2
 stk : StkI B0 B0 w hv st.reverse
 stl : st.length ≤ 1000
 hB0 : B0 ≤ w.heap.size
def ItemE (w : World) (R B B0 : Nat) (st' : List AryP) (k' : Nat) (e : Ending) (w' : World) : Prop :=
 ∃ v, e = .returned (.tuple #[v, .int .i64 0]) ∧ StkI B0 w.heap.size w' v st'.reverse ∧ KB (fun g => g = R) w w' ∧ w'.heap[R]? = some (.cells #[.map (some B), .int .i64 (k' : Int)] 131 (0, 0))
structure ItS (w : World) (y4 y9 : Nat) (cs : Array Value) (v u : Value) (W : World) : Prop where
 below : Below w.heap.size w W
 b4 : W.heap[y4]? = some (.cells cs 121 (0, 0))
 b9 : W.heap[y9]? = some (.cells #[v, u] 44 (0, 0))
theorem ItS.next {w W W' : World} {y4 y9 : Nat} {cs : Array Value} {v u : Value} (h : ItS w y4 y9 cs v u W) (hb : Below W.heap.size W W') : ItS w y4 y9 cs v u W' :=
 ⟨h.below.trans (hb.mono h.below.size), block_below h.b4 hb, block_below h.b9 hb⟩
theorem ItS.store {w W : World} {y4 y9 : Nat} {cs : Array Value} {v u v' u' : Value} (h : ItS w y4 y9 cs v u W) (hy : w.heap.size ≤ y9) (hne : y9 ≠ y4) : ItS w y4 y9 cs v' u' ((W.setCell ⟨y9, 0, none⟩ v').setCell ⟨y9, 1, none⟩ u') := by
 refine ⟨(h.below.setCell hy _).setCell hy _, block_other (block_other h.b4 hne _) hne _, ?_⟩
 rw [heap_setCell_same _ y9 1 _ _ _ (heap_setCell_same _ y9 0 _ _ _ h.b9)]
 rfl
theorem ItS.new (w : World) (cs : Array Value) : ItS w w.heap.size (w.heap.size + 1) cs (.slice none 0 0) (.slice none 0 0) ((w.alloc (.cells cs 121)).alloc (.cells #[.slice none 0 0, .slice none 0 0] 44)) := by
 have d2 : Below _ _ ((w.alloc (.cells cs 121)).alloc (.cells #[.slice none 0 0, .slice none 0 0] 44)) := (Below.refl _ (w.alloc (.cells cs 121))).alloc (Nat.le_refl _) _
 refine ⟨((Below.refl _ _).alloc (Nat.le_refl _) _).alloc (by simp) _, block_below (World.alloc_heap_new _ _) d2, ?_⟩
 have h := World.alloc_heap_new (w.alloc (.cells cs 121)) (.cells #[.slice none 0 0, .slice none 0 0] 44)
 simpa using h
structure ItT (w : World) (y9 : Nat) (B0 : Nat) (a : AryP) (v u : Value) (W : World) : Prop where
 below : Below w.heap.size w W
 b9 : W.heap[y9]? = some (.cells #[v, u] 44 (0, 0))
 v : SlK B0 W v a.1
 u : SlK B0 W u a.2
theorem ItT.next {w W W' : World} {y9 B0 : Nat} {a : AryP} {v u : Value} (h : ItT w y9 B0 a v u W) (hb : Below W.heap.size W W') : ItT w y9 B0 a v u W' :=
 ⟨h.below.trans (hb.mono h.below.size), block_below h.b9 hb, h.v.below hb, h.u.below hb⟩
theorem stk_end {B0 M : Nat} {w : World} {a : Option Addr} {n c : Nat} {x : AryP} {r : List AryP} (h : StkI B0 M w (.slice a n c) (x :: r).reverse) :
  ∃ g v u, a = some ⟨g, 0, none⟩ ∧ n = r.length + 1 ∧ n ≤ c ∧ M ≤ g ∧ g < w.heap.size ∧ SlK B0 w v x.1 ∧ SlK B0 w u x.2 ∧ w.cell? ⟨g, r.length * 2, none⟩ = some v ∧ w.cell? ⟨g, r.length * 2 + 1, none⟩ = some u := by
 have hn : n = r.length + 1 := by
  obtain ⟨a', c', e⟩ := h.form
  simp only [Value.slice.injEq] at e
  rw [e.2.1]; simp
 obtain ⟨g, v, u, e, hM, h1, h2, h3, h4⟩ := stk_at h r.length (by simp)
 have hx : (x :: r).reverse[r.length]'(by simp) = x := by
  rw [List.getElem_reverse]
  simp
 rw [hx] at h1 h2
 have hnc : n ≤ c := by
  obtain ⟨cs, h0, -⟩ := h
  obtain ⟨_, ⟨hv, h0⟩ | ⟨g', cap, cur, hv, _, _, hc, _⟩⟩ := h0
  ·simp only [Value.slice.injEq] at hv; omega
  ·simp only [Value.slice.injEq] at hv; simp at hc; omega
 exact ⟨g, v, u, e, hn, hnc, hM, World.block_lt_of_cell? w _ h3, h1, h2, h3, h4⟩
theorem itst_below {B0 y9 : Nat} {w : World} (h : B0 ≤ w.heap.size) (hy : w.heap.size ≤ y9) (W : World) (v u : Value) : Below B0 W ((W.setCell ⟨y9, 0, none⟩ v).setCell ⟨y9, 1, none⟩ u) :=
 ((Below.refl B0 W).setCell (p := ⟨y9, 0, none⟩) (show B0 ≤ y9 by omega) _).setCell (p := ⟨y9, 1, none⟩) (show B0 ≤ y9 by omega) _
theorem itst_keep {y9 : Nat} {W : World} {v0 u0 : Value} {t : TypeId} (h : W.heap[y9]? = some (.cells #[v0, u0] 44 (0, 0))) (v u : Value) (ht : 44 ≠ t) : KeepTy t W ((W.setCell ⟨y9, 0, none⟩ v).setCell ⟨y9, 1, none⟩ u) :=
 (KeepTy.setCell (p := ⟨y9, 0, none⟩) (NotTy.of h ht) _).trans (KeepTy.setCell (p := ⟨y9, 1, none⟩) (NotTy.of (heap_setCell_same _ y9 0 _ _ _ h) ht) _)
structure ItU (w : World) (y9 R B B0 k' : Nat) (a : AryP) (v u : Value) (X : World) : Prop where
 kb : KB (fun g => g = R) w X
 run : X.heap[R]? = some (.cells #[.map (some B), .int .i64 (k' : Int)] 131 (0, 0))
 b9 : X.heap[y9]? = some (.cells #[v, u] 44 (0, 0))
 v : SlK B0 X v a.1
 u : SlK B0 X u a.2
theorem ItT.turn {w W : World} {y9 R B B0 k k' : Nat} {a : AryP} {v u : Value} (h : ItT w y9 B0 a v u W) (hr : W.heap[R]? = some (.cells #[.map (some B), .int .i64 (k : Int)] 131 (0, 0))) (hR : B0 ≤ R) (hB0 : B0 ≤ w.heap.size) (hr0 : w.heap[R]? = some (.cells #[.map (some B), .int .i64 (k : Int)] 131 (0, 0))) (hy : w.heap.size ≤ y9)
  (z : Value) (hz : z = .int .i64 (k' : Int)) : ItU w y9 R B B0 k' a v u (W.setCell ⟨R, 1, none⟩ z).drew := by
 subst hz
 have hRl : R < w.heap.size := block_lt hr0
 have hne : y9 ≠ R := by omega
 have hk : ∀ t, 131 ≠ t → KeepTy t W (W.setCell ⟨R, 1, none⟩ (.int .i64 (k' : Int))).drew := fun t ht => (KeepTy.setCell (p := ⟨R, 1, none⟩) (NotTy.of hr ht) _).trans (fun _ _ h => h)
 have hb : Below B0 W (W.setCell ⟨R, 1, none⟩ (.int .i64 (k' : Int))).drew := ((Below.refl B0 W).setCell (p := ⟨R, 1, none⟩) hR _).drew
 have hkb : KB (fun g => g = R) w W := KB.of_below h.below (fun g h1 h2 => absurd h1 (by omega))
 refine ⟨(hkb.setCell (p := ⟨R, 1, none⟩) (fun _ => rfl) _).drew, ?_, hk _ (by decide) _ _ h.b9, h.v.turn hb (hk _ (by decide)), h.u.turn hb (hk _ (by decide))⟩
 show (W.setCell ⟨R, 1, none⟩ (.int .i64 (k' : Int))).heap[R]? = _
 rw [heap_setCell_same _ R 1 _ _ _ hr]
 rfl
theorem ItU.keep {w X : World} {y9 R B B0 k k' : Nat} {a : AryP} {v u : Value} (h : ItU w y9 R B B0 k' a v u X) (hr0 : w.heap[R]? = some (.cells #[.map (some B), .int .i64 (k : Int)] 131 (0, 0))) {t : TypeId} (ht : 131 ≠ t) : KeepTy t w X :=
 KeepTy.kb h.kb (fun g e => by subst e; exact NotTy.of hr0 ht)
theorem ItU.stack {w X : World} {y9 R B B0 k k' M : Nat} {a : AryP} {v u hv : Value} {l : List AryP} (h : ItU w y9 R B B0 k' a v u X) (hs : StkI B0 M w hv l) (hR : B0 ≤ R) (hr0 : w.heap[R]? = some (.cells #[.map (some B), .int .i64 (k : Int)] 131 (0, 0))) (hB0 : B0 ≤ w.heap.size) : StkI B0 M X hv l :=
 hs.turn (h.kb.below hB0 (fun g e => by omega)) (h.keep hr0 (by decide)) (h.keep hr0 (by decide))
theorem kb_out {S : Nat → Prop} {a w w' : World} (h : KB S a w) (k : Below w.heap.size w w') : KB S a w' := h.then_below k (fun g h1 h2 => by have := h.size; omega)
theorem Tryz.infoAry : (Tryz.prog.info? 44).map (fun i => (i.zero, i.size, i.bytes)) = some (some zeroArr, 2, 48) := by kernel_rfl
theorem wrap_nat {n : Nat} (h : n ≤ 1000) : IntKind.i64.wrap (n : Int) = (n : Int) := by rw [IntKind.wrap_i64]; omega
def ItemOK (P : Itm → Prop) : Prop := ∀ (w : World) (B0 R B n k : Nat) (MV : Str → Option Value) (M : Str → Option AryP) (hv : Value) (st : List AryP) (H : ItH B0 R B n k MV M hv st w) (ia : Int) (it : Itm) (nv : Value) (hn : RowI 0 w nv it.nums)
  (st' : List AryP) (k' t : Nat) (a : AryP) (hit : ItemA M k it st st' k' t a) (hnm : it.name.length ≤ 1000) (hP : P it),
  Calls Tryz.prog 58 #[.pointer (some ⟨R, 0, none⟩), .agg #[.int .i64 it.how, .int .i64 ia, .int .u8 it.fn, .string (str it.name), nv], hv] w fun e w' => ItemE w R B B0 st' k' e w'
end Go.Proofs.YtokghjnkfabgiaaGreatDoor

namespace Go.Proofs.YtokghjnkfabgiaaGreatDoor
open Go.RowKit Go.Lib
attribute [local go_sem] str_size str_get str_toList

structure MnB (w0 : World) (y7 R B n k : Nat) (MV : Str → Option Value) (M : Str → Option AryP) (ov : Value) (outs : List AryP) (X : World) : Prop where
 below : Below w0.heap.size w0 X
 b7 : X.heap[y7]? = some (.cells #[.int .i64 0, .int .i64 0] 28 (0, 0))
 run : X.heap[R]? = some (.cells #[.map (some B), .int .i64 (k : Int)] 131 (0, 0))
 map : MapV zeroArr B n MV X
 vals : ∀ s a, M s = some a → ∃ v u, MV s = some (.agg #[v, u]) ∧ SlK w0.heap.size X v a.1 ∧ SlK w0.heap.size X u a.2
 out : StkI w0.heap.size w0.heap.size X ov outs
 hR : w0.heap.size ≤ R
 hB : w0.heap.size ≤ B
 hy7 : w0.heap.size ≤ y7
section
variable {w0 X X' : World} {y7 R B n k k' : Nat} {MV : Str → Option Value} {M : Str → Option AryP} {ov : Value} {outs : List AryP}
theorem MnB.next (h : MnB w0 y7 R B n k MV M ov outs X) (hb : Below X.heap.size X X') : MnB w0 y7 R B n k MV M ov outs X' :=
 ⟨h.below.trans (hb.mono h.below.size), block_below h.b7 hb, block_below h.run hb, h.map.below hb, fun s a e => by obtain ⟨v, u, e1, h1, h2⟩ := h.vals s a e; exact ⟨v, u, e1, h1.below hb, h2.below hb⟩, h.out.next hb, h.hR, h.hB, h.hy7⟩
theorem MnB.turn (h : MnB w0 y7 R B n k MV M ov outs X) (hb : Below w0.heap.size X X') (hkt : ∀ t, 131 ≠ t → KeepTy t X X') (hm : X'.heap[B]? = X.heap[B]?) (hr : X'.heap[R]? = some (.cells #[.map (some B), .int .i64 (k' : Int)] 131 (0, 0))) : MnB w0 y7 R B n k' MV M ov outs X' :=
 ⟨h.below.trans hb, hkt _ (by decide) _ _ h.b7, hr, h.map.kept hm, fun s a e => by obtain ⟨v, u, e1, h1, h2⟩ := h.vals s a e; exact ⟨v, u, e1, h1.turn hb (hkt _ (by decide)), h2.turn hb (hkt _ (by decide))⟩, h.out.turn hb (hkt _ (by decide)) (hkt _ (by decide)), h.hR, h.hB, h.hy7⟩
theorem MnB.item (h : MnB w0 y7 R B n k MV M ov outs X) (hk : KB (fun g => g = R) X X') (hr : X'.heap[R]? = some (.cells #[.map (some B), .int .i64 (k' : Int)] 131 (0, 0))) : MnB w0 y7 R B n k' MV M ov outs X' := by
 refine h.turn (hk.below h.below.size (fun g e => by have := h.hR; omega)) (fun t ht => KeepTy.kb hk (fun g e => by subst e; exact NotTy.of h.run ht)) (hk.block B h.map.lt (fun e => ?_)) hr
 exact h.map.notTy (u := 131) _ (by rw [e]; exact h.run)
theorem MnB.handed (h : MnB w0 y7 R B n k MV M ov outs X) {hv : Value} {st : List AryP} {M1 : Nat} (hs : StkI w0.heap.size M1 X hv st.reverse) (hM : w0.heap.size ≤ M1) (hl : st.length ≤ 1000) : ItH w0.heap.size R B n k MV M hv st X :=
 ⟨h.run, h.hR, h.map, h.vals, RowG.mono hs hM, hl, h.below.size⟩
theorem MnB.put (h : MnB w0 y7 R B n k MV M ov outs X) {nm : Str} {v u : Value} {a : AryP} (hv : SlK w0.heap.size X v a.1) (hu : SlK w0.heap.size X u a.2) (hm : MapV zeroArr B (n + 1) (putV MV nm (.agg #[v, u])) X') (hg : X.grownBy X' (some B)) : MnB w0 y7 R B (n + 1) k (putV MV nm (.agg #[v, u])) (putA M nm a) ov outs X' := by
 have hkt : ∀ t, KeepTy t X X' := fun t => KeepTy.grown hg (fun g e => by cases e; exact h.map.notTy)
 have hb : Below w0.heap.size X X' := (Below.refl _ X).grown hg h.below.size (fun g e => by cases e; exact h.hB)
 refine ⟨h.below.trans hb, hkt _ _ _ h.b7, hkt _ _ _ h.run, hm, fun s b e => ?_, h.out.turn hb (hkt _) (hkt _), h.hR, h.hB, h.hy7⟩
 unfold putA at e
 unfold putV
 by_cases hs : s = nm
 ·rw [if_pos hs] at e ⊢
  cases e
  exact ⟨v, u, rfl, hv.turn hb (hkt _), hu.turn hb (hkt _)⟩
 ·rw [if_neg hs] at e ⊢
  obtain ⟨v', u', e1, h1, h2⟩ := h.vals s b e
  exact ⟨v', u', e1, h1.turn hb (hkt _), h2.turn hb (hkt _)⟩
theorem MnB.push (h : MnB w0 y7 R B n k MV M ov outs X) {ov' : Value} {a : AryP} (ho : StkI w0.heap.size w0.heap.size X' ov' (outs ++ [a])) (hb : Below w0.heap.size X X') (hg : X.grownBy X' ov.ownBlock) (hkt : ∀ t, t ≠ 44 → KeepTy t X X') : MnB w0 y7 R B n k MV M ov' (outs ++ [a]) X' := by
 refine ⟨h.below.trans hb, hkt _ (by decide) _ _ h.b7, hkt _ (by decide) _ _ h.run, h.map.kept (hg.block B h.map.lt (fun e => ?_)), fun s a e => ?_, ho, h.hR, h.hB, h.hy7⟩
 ·obtain ⟨cs, h1, -⟩ := h.out
  obtain ⟨cur, hc⟩ := own_typed h1 e.symm
  exact h.map.notTy (u := 44) _ hc
 ·obtain ⟨v, u, e1, h1, h2⟩ := h.vals s a e
  exact ⟨v, u, e1, h1.turn hb (hkt _ (by decide)), h2.turn hb (hkt _ (by decide))⟩
end
theorem slk_ints {B0 : Nat} {w : World} {a : Option Addr} {n c : Nat} {xs : List Int} (h : SlK B0 w (.slice a n c) xs) : IntsAt .i64 w a xs := by
 obtain ⟨a', c', e, h1, h2, h3, hi, h5⟩ := h.sl
 cases e
 exact hi
theorem take_more {α : Type} {l : List α} {i : Nat} {a : α} {o : List α} (h : l.drop i = a :: o) : l.take (i + 1) = l.take i ++ [a] ∧ l.drop (i + 1) = o ∧ a ∈ l := by
 have hi : i < l.length := by
  have := congrArg List.length h
  simp at this
  omega
 rw [List.drop_eq_getElem_cons hi] at h
 injection h with h1 h2
 exact ⟨by rw [List.take_succ_eq_append_getElem hi, h1], h2, by rw [← h1]; exact List.getElem_mem hi⟩
theorem items_none {M : Str → Option AryP} {k k' : Nat} {st st' : List AryP} (h : ItemsA M k [] st st' k') : st' = st ∧ k' = k := h
structure MnS (w : World) (y3 y7 : Nat) (iv lv : Value) (X : World) : Prop where
 below : Below w.heap.size w X
 b3 : X.heap[y3]? = some (.cells #[iv, lv] 25 (0, 0))
 b7 : X.heap[y7]? = some (.cells #[.int .i64 0, .int .i64 0] 28 (0, 0))
theorem MnS.next {w W W' : World} {y3 y7 : Nat} {iv lv : Value} (h : MnS w y3 y7 iv lv W) (hb : Below W.heap.size W W') : MnS w y3 y7 iv lv W' :=
 ⟨h.below.trans (hb.mono h.below.size), block_below h.b3 hb, block_below h.b7 hb⟩
set_option maxHeartbeats 16000000 in
theorem mean_any {N : Nat} {PI : Itm → Prop} (HOK : ItemOK PI) (w : World) (ht : TabT w) (iv lv : Value) (nm : Str) (s d : List Int) (lines : List LinP) (h1 : RowG inpR N 79 w iv [⟨nm, numSides s⟩]) (h2 : RowG linR N 67 w lv lines) (hin : InN ⟨[⟨nm, numSides s⟩], lines⟩) (S : Str) (hS : showProg LL ⟨[⟨nm, numSides s⟩], lines⟩ = some S)
  (ab ao ac : Nat) (av au : Value) (hc0 : w.cell? ⟨ab, ao, none⟩ = some av) (hc1 : w.cell? ⟨ab, ao + 1, none⟩ = some au) (hs : SlA w av s) (hd : SlA w au d) (hr : right s d = true) (outs : List AryP) (hL : LinesA (putA (fun _ => none) nm (s, d)) 0 lines outs)
  (hln : lines.length ≤ 64) (hlf : ∀ l ∈ lines, l.name.length ≤ 1000 ∧ l.items.length ≤ 300 ∧ ∀ it ∈ l.items, it.name.length ≤ 1000 ∧ PI it) (hol : ∀ a ∈ outs, a.1.length ≤ 1048576 ∧ a.2.length ≤ 1048576) (hon : outs.length ≤ 64) :
  Calls Tryz.prog 32 #[.agg #[iv, lv], .slice none 0 0, .slice (some ⟨ab, ao, none⟩) 1 ac] w fun e w' => ∃ v, e = .returned (.tuple #[v, .agg #[.int .i64 0, .int .i64 0]]) ∧ StkI w.heap.size w.heap.size w' v outs ∧ Below w.heap.size w w' := by
 obtain ⟨ia, ic, rfl⟩ := h1.form
 obtain ⟨la, lc, rfl⟩ := h2.form
 have e1 : ([⟨nm, numSides s⟩] : List InpP).length = 1 := rfl
 rw [e1] at h1
 have hx0 : MnS w w.heap.size (w.heap.size + 1) (.slice ia 1 ic) (.slice la lines.length lc) ((w.alloc (.cells #[.slice ia 1 ic, .slice la lines.length lc] 25)).alloc (.cells #[.int .i64 0, .int .i64 0] 28)) := by
  have d2 : Below _ _ ((w.alloc (.cells #[.slice ia 1 ic, .slice la lines.length lc] 25)).alloc (.cells #[.int .i64 0, .int .i64 0] 28)) := (Below.refl _ (w.alloc (.cells #[.slice ia 1 ic, .slice la lines.length lc] 25))).alloc (Nat.le_refl _) _
  refine ⟨((Below.refl _ _).alloc (Nat.le_refl _) _).alloc (by simp) _, block_below (World.alloc_heap_new _ _) d2, ?_⟩
  have h := World.alloc_heap_new (w.alloc (.cells #[.slice ia 1 ic, .slice la lines.length lc] 25)) (.cells #[.int .i64 0, .int .i64 0] 28)
  simpa using h
 have HX0 := Lib.hid hx0; have HT := Lib.hid ht; have H1 := Lib.hid h1; have H2 := Lib.hid h2; have HIN := Lib.hid hin; have HS := Lib.hid hS; have HSA := Lib.hid hs; have HSD := Lib.hid hd; have HC0 := Lib.hid hc0; have HC1 := Lib.hid hc1; have HR := Lib.hid hr; have HL := Lib.hid hL; have HLF := Lib.hid hlf; have HOL := Lib.hid hol
 clear hx0 ht h1 h2 hin hS hs hd hc0 hc1 hr hL hlf hol e1
 go_enter Tryz.func32, Tryz.ntmps32
 go_upto_region 1 with fail
 refine gen_worldA (fun W => MnS w w.heap.size (w.heap.size + 1) (.slice ia 1 ic) (.slice la lines.length lc) W) HX0.out ?_
 clear HX0
 have hy7 : w.heap.size ≤ w.heap.size + 1 := by omega
 generalize w.heap.size + 1 = y7 at hy7 ⊢
 obtain ⟨y3, hy3⟩ : ∃ y3, w.heap.size = y3 := ⟨_, rfl⟩
 rw [hy3]
 rintro W hx
 have hbg := begin_any W (HT.out.below hx.below) _ _ nm s d lines (H1.out.next hx.below) (H2.out.next hx.below) HIN.out S HS.out ab ao ac av au (keepCell hx.below HC0.out) (keepCell hx.below HC1.out) (HSA.out.below hx.below) (HSD.out.below hx.below) HR.out
 have HBG := Lib.hid hbg; have HX := Lib.hid hx
 have k0 := cell_of_row _ y3 0 _ _ _ hx.b3
 have k1 := cell_of_row _ y3 1 _ _ _ hx.b3
 clear hbg hx
 go_wp2_with (go_at_call 57; fail)
 refine HBG.out.mono ?_
 rintro e w2 ⟨hb2, R, B, rfl, hB, hR, hrun, hmap⟩
 have hd2 : Below w2.heap.size w2 (w2.alloc (.cells #[.int .i64 0, .int .i64 0] 28)) := (Below.refl _ _).alloc (Nat.le_refl _) _
 have hx2 := (HX.out.next hb2).next hd2
 have h9 := World.alloc_heap_new w2 (.cells #[.int .i64 0, .int .i64 0] 28)
 have hsz : w.heap.size ≤ W.heap.size := HX.out.below.size
 have hmn : MnB w y7 R B 1 0 (putV (fun _ => none) nm (.agg #[av, au])) (putA (fun _ => none) nm (s, d)) (.slice none 0 0) [] (w2.alloc (.cells #[.int .i64 0, .int .i64 0] 28)) := by
  refine ⟨hx2.below, hx2.b7, block_below hrun hd2, hmap.below hd2, fun q a e => ?_, RowG.nil _ _ _ _, by omega, by omega, hy7⟩
  unfold putA at e
  unfold putV
  split at e
  ·rename_i hq
   cases e
   rw [if_pos hq]
   exact ⟨av, au, rfl, (SlK.old HSA.out (Nat.le_refl _)).turn hx2.below (KeepTy.below hx2.below), (SlK.old HSD.out (Nat.le_refl _)).turn hx2.below (KeepTy.below hx2.below)⟩
  ·cases e
 have HX2 := Lib.hid hx2; have HMN := Lib.hid hmn; have H9 := Lib.hid h9
 clear hb2 hrun hmap hd2 hx2 h9 hmn HX HBG k0 k1 hB hR
 dsimp only
 go_upto_region 2 with fail
 refine gen_worldA (fun X => (MnS w y3 y7 (.slice ia 1 ic) (.slice la lines.length lc) X ∧ MnB w y7 R B 1 0 (putV (fun _ => none) nm (.agg #[av, au])) (putA (fun _ => none) nm (s, d)) (.slice none 0 0) [] X) ∧ X.heap[w2.heap.size]? = some (.cells #[.int .i64 0, .int .i64 0] 28 (0, 0))) ⟨⟨HX2.out, HMN.out⟩, H9.out⟩ ?_
 clear HX2 HMN H9
 generalize w2.heap.size = y9
 rintro X ⟨⟨hx, hmn⟩, h9⟩
 have k0 := cell_of_row _ y9 0 _ _ _ h9
 have k1 := cell_of_row _ y9 1 _ _ _ h9
 have k31 := cell_of_row _ y3 1 _ _ _ hx.b3
 have HMN := Lib.hid hmn
 have HOV : ∃ c, Value.slice none 0 0 = .slice none 0 c := ⟨0, rfl⟩
 clear hx hmn h9
 go_upto_region 6 with fail
 clear k0 k1 k31
 go_loopw [10, 32] (fun v10 v wr => ∃ (i : Nat) (MV : Str → Option Value) (M : Str → Option AryP) (n k : Nat), v = .int .i64 (i : Int) ∧ i ≤ lines.length ∧ n = i + 1 ∧ MnB w y7 R B n k MV M v10 (outs.take i) wr ∧ LinesA M k (lines.drop i) (outs.drop i)) (fun v10 v wr => lines.length - (Lib.intOf v).toNat)
 case atStart => exact ⟨0, _, _, 1, 0, rfl, Nat.zero_le _, rfl, HMN.out, HL.out⟩
 case round =>
  clear HMN HL
  obtain ⟨i, MV, M, n, k, rfl, hi, rfl, hmn, hL⟩ := hrel
  by_cases hil : i < lines.length
  ·have q : decide ((i : Int) < (lines.length : Int)) = true := decide_eq_true (by omega)
   obtain ⟨lb, lo, lcc, lat, lu, e1, z0, z1, z2, zr⟩ := lin_at3 H2.out i hil
   cases e1
   have z0 := keepCell hmn.below z0
   have z1 := keepCell hmn.below z1
   have z2 := keepCell hmn.below z2
   have hlx := HLF.out _ (List.getElem_mem hil)
   rw [List.drop_eq_getElem_cons hil] at hL
   obtain ⟨a, k1, o, hI, hL', ho⟩ := hL
   generalize lines[i] = l at z0 z2 zr hlx hI hL'
   obtain ⟨ln, items⟩ := l
   dsimp only at z0 z2 zr hlx hI hL'
   obtain ⟨ta, tc, rfl⟩ := zr.form
   have hd5 : Below wr.heap.size wr (wr.alloc (.cells #[.string (str ln), .int .i64 lat, .slice ta items.length tc] 67)) := (Below.refl _ _).alloc (Nat.le_refl _) _
   have h12 := World.alloc_heap_new wr (.cells #[.string (str ln), .int .i64 lat, .slice ta items.length tc] 67)
   have HMN := Lib.hid (And.intro (hmn.next hd5) h12); have HZR := Lib.hid zr; have HLX := Lib.hid hlx; have HI := Lib.hid hI; have HLL := Lib.hid hL'; have HO := Lib.hid ho
   clear hmn zr hlx hI hL' ho hd5 h12
   go_upto_region 9 with fail
   clear z0 z1 z2
   generalize wr.alloc (.cells #[.string (str ln), .int .i64 lat, .slice ta items.length tc] 67) = W5 at HMN ⊢
   generalize wr.heap.size = y12 at HMN ⊢
   have x2 := cell_of_row _ y12 2 _ _ _ HMN.out.2
   have hw5 : w.heap.size ≤ W5.heap.size := HMN.out.1.below.size
   have hob : ∀ b, u10.ownBlock = some b → b < W5.heap.size := fun b e => by
    obtain ⟨cs, h1, -⟩ := HMN.out.1.out
    exact (World.ownsRow.lt h1 b e).2
   have HOB := Lib.hid hob
   clear hob
   go_upto_region 10 with fail
   clear x2
   go_loopw [13, 39] (fun v13 v wx => ∃ (j : Nat) (st : List AryP) (kj : Nat), v = .int .i64 (j : Int) ∧ j ≤ items.length ∧ st.length ≤ j ∧ (MnB w y7 R B (i + 1) kj MV M u10 (outs.take i) wx ∧ wx.heap[y12]? = some (.cells #[.string (str ln), .int .i64 lat, .slice ta items.length tc] 67 (0, 0))) ∧ StkI w.heap.size W5.heap.size wx v13 st.reverse ∧ ItemsA M kj (items.drop j) st [a] k1 ∧ W5.heap.size ≤ wx.heap.size) (fun v13 v wx => items.length - (Lib.intOf v).toNat)
   case atStart => exact ⟨0, [], k, rfl, Nat.zero_le _, Nat.le_refl _, HMN.out, RowG.nil _ _ _ _, HI.out, Nat.le_refl _⟩
   case round =>
    clear HMN HI
    obtain ⟨j, st, kj, rfl, hj, hst, hmn, hsk, hI, hsz5⟩ := hrel
    by_cases hjl : j < items.length
    ·have qj : decide ((j : Int) < (items.length : Int)) = true := decide_eq_true (by omega)
     obtain ⟨ib, io, icc, iat, nv, e1, c0, c1, c2, c3, c4, hn⟩ := itm_at HZR.out j hjl
     cases e1
     have c0 := keepCell hmn.1.below c0
     have c1 := keepCell hmn.1.below c1
     have c2 := keepCell hmn.1.below c2
     have c3 := keepCell hmn.1.below c3
     have c4 := keepCell hmn.1.below c4
     have hnm := HLX.out.2.2 _ (List.getElem_mem hjl)
     rw [List.drop_eq_getElem_cons hjl] at hI
     obtain ⟨st1, kj1, t, av1, hit, hI'⟩ := hI
     generalize items[j] = it at c0 c2 c3 hn hnm hit
     have hn := hn.below hmn.1.below
     obtain ⟨na, nc, rfl, -⟩ := hn.slice
     have hl5 : items.length ≤ 300 := HLX.out.2.1
     have hst1 : st1.length ≤ j + 1 := by rw [hit.st, List.length_cons, List.length_drop]; omega
     have hd6 : Below wr.heap.size wr (wr.alloc (.cells #[.int .i64 it.how, .int .i64 iat, .int .u8 it.fn, .string (str it.name), .slice na it.nums.length nc] 121)) := (Below.refl _ _).alloc (Nat.le_refl _) _
     have h15 := World.alloc_heap_new wr (.cells #[.int .i64 it.how, .int .i64 iat, .int .u8 it.fn, .string (str it.name), .slice na it.nums.length nc] 121)
     have HMN := Lib.hid (And.intro (And.intro (hmn.1.next hd6) (block_below hmn.2 hd6)) h15); have HSK := Lib.hid (RowG.next hsk hd6); have HNN := Lib.hid (hn.below hd6); have HII := Lib.hid hI'; have HTI := Lib.hid hit
     have hsz6 : W5.heap.size ≤ (wr.alloc (.cells #[.int .i64 it.how, .int .i64 iat, .int .u8 it.fn, .string (str it.name), .slice na it.nums.length nc] 121)).heap.size := Nat.le_trans hsz5 hd6.size
     have HSZ := Lib.hid hsz6
     clear hmn hsk hn hit hI' hd6 h15 hsz5 hsz6
     go_upto_region 12 with fail
     clear c0 c1 c2 c3 c4
     generalize wr.alloc (.cells #[.int .i64 it.how, .int .i64 iat, .int .u8 it.fn, .string (str it.name), .slice na it.nums.length nc] 121) = W6 at HMN HSK HNN HSZ ⊢
     generalize wr.heap.size = y15 at HMN ⊢
     have x0 := cell_of_row _ y15 0 _ _ _ HMN.out.2
     have x1 := cell_of_row _ y15 1 _ _ _ HMN.out.2
     have x2 := cell_of_row _ y15 2 _ _ _ HMN.out.2
     have x3 := cell_of_row _ y15 3 _ _ _ HMN.out.2
     have x4 := cell_of_row _ y15 4 _ _ _ HMN.out.2
     have hca := HOK W6 w.heap.size R B (i + 1) kj MV M u13 st (HMN.out.1.1.handed HSK.out hw5 (by omega)) iat it _ HNN.out st1 kj1 t av1 HTI.out hnm.1 hnm.2
     have HCA := Lib.hid hca
     clear hca
     obtain ⟨a13, n13, c13, rfl⟩ : ∃ a n c, u13 = .slice a n c := by obtain ⟨a, c, e⟩ := HSK.out.form; exact ⟨_, _, _, e⟩
     go_wp2_with (go_at_call 58; fail)
     refine HCA.out.mono ?_
     rintro e w8 ⟨v8, rfl, hs8, hkb8, hr8⟩
     have hmn8 := HMN.out.1.1.item hkb8 hr8
     have h128 := (KeepTy.kb hkb8 (fun g e => by subst e; exact NotTy.of HMN.out.1.1.run (t := 67) (by decide))) _ _ HMN.out.1.2
     have HMN8 := Lib.hid (And.intro hmn8 h128); have HSK8 := Lib.hid (RowG.mono hs8 HSZ.out); have HSZ8 := Lib.hid (Nat.le_trans HSZ.out hkb8.size)
     clear x0 x1 x2 x3 x4 hs8 hkb8 hr8 hmn8 h128 HMN HSK HCA HSZ
     obtain ⟨a8, n8, c8, rfl⟩ : ∃ a n c, v8 = .slice a n c := by obtain ⟨a, c, e⟩ := HSK8.out.form; exact ⟨_, _, _, e⟩
     dsimp only
     go_wp2_with fail
     go_roundw
     case rel => exact ⟨j + 1, st1, kj1, by go_num, by omega, hst1, HMN8.out, HSK8.out, HII.out, HSZ8.out⟩
     case measure => simp [Lib.intOf]; omega
    ·obtain rfl : j = items.length := by omega
     have qj : decide ((items.length : Int) < (items.length : Int)) = false := decide_eq_false (by omega)
     rw [List.drop_length] at hI
     obtain ⟨e1, rfl⟩ := items_none hI
     obtain rfl : st = [a] := e1.symm
     obtain ⟨a13, n13, c13, rfl⟩ : ∃ a n c, u13 = .slice a n c := by obtain ⟨a, c, e⟩ := hsk.form; exact ⟨_, _, _, e⟩
     obtain ⟨g, v, u, rfl, hn13, hnc, hgM, hgl, hv, hu, hc0, hc1⟩ := stk_end hsk
     obtain rfl : n13 = 1 := hn13
     rw [List.length_nil, Nat.zero_mul] at hc0 hc1
     rw [Nat.zero_add] at hc1
     have r0 := cell_of_row _ R 0 _ _ _ hmn.1.run
     have l0 := cell_of_row _ y12 0 _ _ _ hmn.2
     have hnm : ln.length ≤ 1000 := HLX.out.1
     obtain ⟨Wz, rz, mz, gz⟩ := (hmn.1.map.below (Below.refl _ wr).drew).put (mt := 129) (et := 44) (by kernel_rfl) (by unfold maxLen; omega) ln (by unfold maxLen; omega) (.agg #[v, u])
     have hmd := hmn.1.next ((Below.refl _ wr).drew)
     have hsd := RowG.next hsk ((Below.refl _ wr).drew)
     have hkz : ∀ t, KeepTy t wr.drew Wz := fun t => KeepTy.grown gz (fun g e => by cases e; exact hmd.map.notTy)
     have hbz : Below w.heap.size wr.drew Wz := (Below.refl _ wr.drew).grown gz hmd.below.size (fun g e => by cases e; exact hmd.hB)
     have HMZ := Lib.hid (hmd.put (a := a) (hv.below ((Below.refl _ wr).drew)) (hu.below ((Below.refl _ wr).drew)) mz gz); have HSZ := Lib.hid (StkI.turn hsd hbz (hkz _) (hkz _))
     obtain ⟨va, vc, rfl⟩ := hv.form
     obtain ⟨ua, uc, rfl⟩ := hu.form
     have hWz : W5.heap.size ≤ Wz.heap.size := Nat.le_trans hsz5 gz.size
     clear hmn hsk hv hu hmd hsd hkz hbz mz gz hI e1
     go_upto_region 17 with fail
     refine wp_region_Z (S := fun W' => ((W'.cell? ⟨R, 0, none⟩ = some (.map (some B)) ∧ W'.cell? ⟨y12, 0, none⟩ = some (.string (str ln))) ∧ W'.cell? ⟨g, 0, none⟩ = some (.slice va a.1.length vc)) ∧ W'.cell? ⟨g, 1, none⟩ = some (.slice ua a.2.length uc)) (z := 9) (by kernel_rfl) ?_
     have hSS : (fun W' : World => ((W'.cell? ⟨R, 0, none⟩ = some (.map (some B)) ∧ W'.cell? ⟨y12, 0, none⟩ = some (.string (str ln))) ∧ W'.cell? ⟨g, 0, none⟩ = some (.slice va a.1.length vc)) ∧ W'.cell? ⟨g, 1, none⟩ = some (.slice ua a.2.length uc)) wr.drew := ⟨⟨⟨r0, l0⟩, hc0⟩, hc1⟩
     clear r0 l0 hc0 hc1
     refine wpAnyZ_take (i := 0) (v := ?_) rfl (by kernel_rfl) (by kernel_rfl) (by kernel_rfl) (fun _ _ _ h => h) (by kernel_rfl) (Or.inl ⟨by rfl, ?_⟩) (by assumption) ?_
     rotate_left
     ·intro w' hSw
      try dsimp only at hSw
      try obtain ⟨hSw, hSw2⟩ := hSw
      go_simp
      try with_reducible rfl
     show wpAnyZ _ _ _ _ _ _ _ _ (Act.put _ (some 58) _) _
     simp only [Act.put, List.setIfInBounds_toArray, List.set_cons_zero, List.set_cons_succ]
     refine wpAnyZ_take (i := 1) (v := ?_) rfl (by kernel_rfl) (by kernel_rfl) (by kernel_rfl) (fun _ _ _ h => h) (by kernel_rfl) (Or.inl ⟨by rfl, ?_⟩) (by assumption) ?_
     rotate_left
     ·intro w' hSw
      try dsimp only at hSw
      try obtain ⟨hSw, hSw2⟩ := hSw
      go_simp
      try with_reducible rfl
     show wpAnyZ _ _ _ _ _ _ _ _ (Act.put _ (some 59) _) _
     simp only [Act.put, List.setIfInBounds_toArray, List.set_cons_zero, List.set_cons_succ]
     refine wpAnyZ_take (i := 2) (v := ?_) rfl (by kernel_rfl) (by kernel_rfl) (by kernel_rfl) (fun _ _ _ h => h) (by kernel_rfl) (Or.inl ⟨by rfl, ?_⟩) (by assumption) ?_
     rotate_left
     ·intro w' hSw
      try dsimp only at hSw
      try obtain ⟨hSw, hSw2⟩ := hSw
      go_simp
      try with_reducible rfl
     show wpAnyZ _ _ _ _ _ _ _ _ (Act.put _ (some 60) _) _
     simp only [Act.put, List.setIfInBounds_toArray, List.set_cons_zero, List.set_cons_succ]
     refine wpAnyZ_take (i := 3) (v := ?_) rfl (by kernel_rfl) (by kernel_rfl) (by kernel_rfl) (fun _ _ _ h => h) (by kernel_rfl) (Or.inl ⟨by rfl, ?_⟩) (by assumption) ?_
     rotate_left
     ·intro w' hSw
      try dsimp only at hSw
      try obtain ⟨hSw, hSw2⟩ := hSw
      go_simp
      try with_reducible rfl
     show wpAnyZ _ _ _ _ _ _ _ _ (Act.put _ (some 61) _) _
     simp only [Act.put, List.setIfInBounds_toArray, List.set_cons_zero, List.set_cons_succ]
     refine wpAnyZ_take (i := 4) (v := ?_) rfl (by kernel_rfl) (by kernel_rfl) (by kernel_rfl) (fun _ _ _ h => h) (by kernel_rfl) (Or.inl ⟨by rfl, ?_⟩) (by assumption) ?_
     rotate_left
     ·intro w' hSw
      try dsimp only at hSw
      try obtain ⟨hSw, hSw2⟩ := hSw
      go_simp
      try with_reducible rfl
     show wpAnyZ _ _ _ _ _ _ _ _ (Act.put _ (some 62) _) _
     simp only [Act.put, List.setIfInBounds_toArray, List.set_cons_zero, List.set_cons_succ]
     refine wpAnyZ_take (i := 5) (v := ?_) rfl (by kernel_rfl) (by kernel_rfl) (by kernel_rfl) (fun _ _ _ h => h) (by kernel_rfl) (Or.inl ⟨by rfl, ?_⟩) (by assumption) ?_
     rotate_left
     ·intro w' hSw
      try dsimp only at hSw
      try obtain ⟨hSw, hSw2⟩ := hSw
      go_simp
      try with_reducible rfl
     show wpAnyZ _ _ _ _ _ _ _ _ (Act.put _ (some 63) _) _
     simp only [Act.put, List.setIfInBounds_toArray, List.set_cons_zero, List.set_cons_succ]
     refine wpAnyZ_take (i := 6) (v := ?_) rfl (by kernel_rfl) (by kernel_rfl) (by kernel_rfl) (fun _ _ _ h => h) (by kernel_rfl) (Or.inl ⟨by rfl, ?_⟩) (by assumption) ?_
     rotate_left
     ·intro w' hSw
      try dsimp only at hSw
      try obtain ⟨hSw, hSw2⟩ := hSw
      go_simp
      try with_reducible rfl
     show wpAnyZ _ _ _ _ _ _ _ _ (Act.put _ (some 64) _) _
     simp only [Act.put, List.setIfInBounds_toArray, List.set_cons_zero, List.set_cons_succ]
     refine wpAnyZ_take (i := 7) (v := .pointer (some ⟨g, 0, none⟩)) rfl (by kernel_rfl) (by kernel_rfl) (by kernel_rfl) (fun _ _ _ h => h) (by kernel_rfl) (Or.inl ⟨by rfl, ?_⟩) (by assumption) ?_
     ·intro w' hSw
      clear hSw
      go_simp
      first | done | rfl | simp
     show wpAnyZ _ _ _ _ _ _ _ _ (Act.put _ (some 65) _) _
     simp only [Act.put, List.setIfInBounds_toArray, List.set_cons_zero, List.set_cons_succ]
     refine wpAnyZ_take (i := 8) (v := ?_) rfl (by kernel_rfl) (by kernel_rfl) (by kernel_rfl) (fun _ _ _ h => h) (by kernel_rfl) (Or.inl ⟨by rfl, ?_⟩) (by assumption) ?_
     rotate_left
     ·intro w' hSw
      try dsimp only at hSw
      try obtain ⟨hSw, hSw2⟩ := hSw
      go_simp
      try with_reducible rfl
     show wpAnyZ _ _ _ _ _ _ _ _ (Act.put _ (some 66) _) _
     simp only [Act.put, List.setIfInBounds_toArray, List.set_cons_zero, List.set_cons_succ]
     clear hSS
     refine wpAnyZ_oneG (i := 9) (by kernel_rfl) rfl (by rfl) (fun K hK => ?_)
     go_simp
     refine hK.out _ _ (.inl (by omega)) ?_
     clear hK rz
     refine wpAnyZ_done (by kernel_rfl) ?_ _
     obtain ⟨g', v', u', e', -, -, hgM', hgl', hv', hu', hc0, hc1⟩ := stk_end HSZ.out
     cases e'
     rw [List.length_nil, Nat.zero_mul] at hc0 hc1
     rw [Nat.zero_add] at hc1
     obtain ⟨va', vc', rfl⟩ := hv'.form
     obtain ⟨ua', uc', rfl⟩ := hu'.form
     clear HSZ hgM
     go_upto_region 18 with fail
     obtain ⟨hO1, hO2, hO3⟩ := take_more HO.out
     have hll := HOL.out a hO3
     have hcl1 := fun W' (hb : Below Wz.heap.size Wz W') => clone_any W' va' vc' a.1 (by omega) ((slk_ints hv').below hb (Nat.le_refl _))
     have hcl2 := fun W' (hb : Below Wz.heap.size Wz W') => clone_any W' ua' uc' a.2 (by omega) ((slk_ints hu').below hb (Nat.le_refl _))
     have HCL1 := Lib.hid hcl1; have HCL2 := Lib.hid hcl2; have HI1 := Lib.hid hv'.in64; have HI2 := Lib.hid hu'.in64; have HO1 := Lib.hid hO1; have HO2 := Lib.hid hO2; have HLL2 := Lib.hid hll
     have HC0Z := Lib.hid hc0; have HC1Z := Lib.hid hc1
     have hgo : ∀ b, u10.ownBlock = some b → g ≠ b := fun b e => by have := HOB.out b e; omega
     have HGO := Lib.hid hgo
     clear hcl1 hcl2 hO1 hO2 hO3 hv' hu' hgo hll
     refine wp_region_Z (S := fun W' => W'.cell? ⟨g, 0, none⟩ = some (.slice va' a.1.length vc') ∧ W'.cell? ⟨g, 1, none⟩ = some (.slice ua' a.2.length uc')) (z := 14) (by kernel_rfl) ?_
     have hSS : (fun W' : World => W'.cell? ⟨g, 0, none⟩ = some (.slice va' a.1.length vc') ∧ W'.cell? ⟨g, 1, none⟩ = some (.slice ua' a.2.length uc')) Wz.drew := ⟨hc0, hc1⟩
     clear hc0 hc1
     refine wpAnyZ_take (i := 0) (v := ?_) rfl (by kernel_rfl) (by kernel_rfl) (by kernel_rfl) (fun _ _ _ h => h) (by kernel_rfl) (Or.inl ⟨by rfl, ?_⟩) (by assumption) ?_
     rotate_left
     ·intro w' hSw
      try dsimp only at hSw
      try obtain ⟨hSw, hSw2⟩ := hSw
      go_simp
      try with_reducible rfl
     show wpAnyZ _ _ _ _ _ _ _ _ (Act.put _ (some 67) _) _
     simp only [Act.put, List.setIfInBounds_toArray, List.set_cons_zero, List.set_cons_succ]
     refine wpAnyZ_take (i := 1) (v := ?_) rfl (by kernel_rfl) (by kernel_rfl) (by kernel_rfl) (fun _ _ _ h => h) (by kernel_rfl) (Or.inl ⟨by rfl, ?_⟩) (by assumption) ?_
     rotate_left
     ·intro w' hSw
      try dsimp only at hSw
      try obtain ⟨hSw, hSw2⟩ := hSw
      go_simp
      try with_reducible rfl
     show wpAnyZ _ _ _ _ _ _ _ _ (Act.put _ (some 68) _) _
     simp only [Act.put, List.setIfInBounds_toArray, List.set_cons_zero, List.set_cons_succ]
     refine wpAnyZ_take (i := 2) (v := .pointer (some ⟨g, 0, none⟩)) rfl (by kernel_rfl) (by kernel_rfl) (by kernel_rfl) (fun _ _ _ h => h) (by kernel_rfl) (Or.inl ⟨by rfl, ?_⟩) (by assumption) ?_
     ·intro w' hSw
      clear hSw
      go_simp
      first | done | rfl | simp
     show wpAnyZ _ _ _ _ _ _ _ _ (Act.put _ (some 69) _) _
     simp only [Act.put, List.setIfInBounds_toArray, List.set_cons_zero, List.set_cons_succ]
     refine wpAnyZ_take (i := 3) (v := ?_) rfl (by kernel_rfl) (by kernel_rfl) (by kernel_rfl) (fun _ _ _ h => h) (by kernel_rfl) (Or.inl ⟨by rfl, ?_⟩) (by assumption) ?_
     rotate_left
     ·intro w' hSw
      try dsimp only at hSw
      try obtain ⟨hSw, hSw2⟩ := hSw
      go_simp
      try with_reducible rfl
     show wpAnyZ _ _ _ _ _ _ _ _ (Act.put _ (some 70) _) _
     simp only [Act.put, List.setIfInBounds_toArray, List.set_cons_zero, List.set_cons_succ]
     refine wpAnyZ_take (i := 4) (v := ?_) rfl (by kernel_rfl) (by kernel_rfl) (by kernel_rfl) (fun _ _ _ h => h) (by kernel_rfl) (Or.inl ⟨by rfl, ?_⟩) (by assumption) ?_
     rotate_left
     ·intro w' hSw
      try dsimp only at hSw
      try obtain ⟨hSw, hSw2⟩ := hSw
      go_simp
      try with_reducible rfl
     show wpAnyZ _ _ _ _ _ _ _ _ (Act.put _ (some 71) _) _
     simp only [Act.put, List.setIfInBounds_toArray, List.set_cons_zero, List.set_cons_succ]
     refine wpAnyZ_take (i := 6) (v := ?_) rfl (by kernel_rfl) (by kernel_rfl) (by kernel_rfl) (fun _ _ _ h => h) (by kernel_rfl) (Or.inl ⟨by rfl, ?_⟩) (by assumption) ?_
     rotate_left
     ·intro w' hSw
      try dsimp only at hSw
      try obtain ⟨hSw, hSw2⟩ := hSw
      go_simp
      try with_reducible rfl
     show wpAnyZ _ _ _ _ _ _ _ _ (Act.put _ (some 73) _) _
     simp only [Act.put, List.setIfInBounds_toArray, List.set_cons_zero, List.set_cons_succ]
     refine wpAnyZ_take (i := 7) (v := .pointer (some ⟨g, 0, none⟩)) rfl (by kernel_rfl) (by kernel_rfl) (by kernel_rfl) (fun _ _ _ h => h) (by kernel_rfl) (Or.inl ⟨by rfl, ?_⟩) (by assumption) ?_
     ·intro w' hSw
      clear hSw
      go_simp
      first | done | rfl | simp
     show wpAnyZ _ _ _ _ _ _ _ _ (Act.put _ (some 74) _) _
     simp only [Act.put, List.setIfInBounds_toArray, List.set_cons_zero, List.set_cons_succ]
     refine wpAnyZ_take (i := 8) (v := ?_) rfl (by kernel_rfl) (by kernel_rfl) (by kernel_rfl) (fun _ _ _ h => h) (by kernel_rfl) (Or.inl ⟨by rfl, ?_⟩) (by assumption) ?_
     rotate_left
     ·intro w' hSw
      try dsimp only at hSw
      try obtain ⟨hSw, hSw2⟩ := hSw
      go_simp
      try with_reducible rfl
     show wpAnyZ _ _ _ _ _ _ _ _ (Act.put _ (some 75) _) _
     simp only [Act.put, List.setIfInBounds_toArray, List.set_cons_zero, List.set_cons_succ]
     refine wpAnyZ_take (i := 9) (v := ?_) rfl (by kernel_rfl) (by kernel_rfl) (by kernel_rfl) (fun _ _ _ h => h) (by kernel_rfl) (Or.inl ⟨by rfl, ?_⟩) (by assumption) ?_
     rotate_left
     ·intro w' hSw
      try dsimp only at hSw
      try obtain ⟨hSw, hSw2⟩ := hSw
      go_simp
      try with_reducible rfl
     show wpAnyZ _ _ _ _ _ _ _ _ (Act.put _ (some 76) _) _
     simp only [Act.put, List.setIfInBounds_toArray, List.set_cons_zero, List.set_cons_succ]
     clear hSS
     have hdz := (Below.refl Wz.heap.size Wz).drew
     refine wpAnyZ_oneG (i := 5) (by kernel_rfl) rfl (by rfl) (fun K hK => ?_)
     go_simp
     refine (HCL1.out Wz.drew hdz).mono ?_
     rintro e w10 ⟨⟨v5, rfl, hv5⟩, hb10⟩
     have hb10' := hdz.trans hb10
     have hc0 := keepCell hb10' HC0Z.out
     have hc1 := keepCell hb10' HC1Z.out
     show K _ w10
     refine hK.out _ _ (.inr ⟨hc0, hc1⟩) ?_
     have HV5 := Lib.hid hv5; have HB10 := Lib.hid hb10'
     clear hK hc0 hc1 hv5 hb10 hdz hb10' HCL1
     refine wpAnyZ_oneG (i := 10) (by kernel_rfl) rfl (by rfl) (fun K hK => ?_)
     go_simp
     refine (HCL2.out w10 HB10.out).mono ?_
     rintro e w11 ⟨⟨v6, rfl, hv6⟩, hb11⟩
     have hb11' := HB10.out.trans (hb11.mono HB10.out.size)
     have hc0 := keepCell hb11' HC0Z.out
     have hc1 := keepCell hb11' HC1Z.out
     show K _ w11
     refine hK.out _ _ (.inr ⟨hc0, hc1⟩) ?_
     have HV5b := Lib.hid (RowI.below HV5.out hb11); have HV6 := Lib.hid hv6; have HB11 := Lib.hid hb11'
     have hSS : (fun W' : World => W'.cell? ⟨g, 0, none⟩ = some (.slice va' a.1.length vc') ∧ W'.cell? ⟨g, 1, none⟩ = some (.slice ua' a.2.length uc')) w11 := ⟨hc0, hc1⟩
     clear hK hc0 hc1 hv6 hb11 hb11' HCL2 HV5 HB10
     obtain ⟨a5, k5, rfl, -⟩ := HV5b.out.slice
     obtain ⟨a6, k6, rfl, -⟩ := HV6.out.slice
     refine wpAnyZ_take (i := 11) (v := ?_) rfl (by kernel_rfl) (by kernel_rfl) (by kernel_rfl) (fun _ _ _ h => h) (by kernel_rfl) (Or.inl ⟨by rfl, ?_⟩) (by assumption) ?_
     rotate_left
     ·intro w' hSw
      try dsimp only at hSw
      try obtain ⟨hSw, hSw2⟩ := hSw
      go_simp
      try with_reducible rfl
     show wpAnyZ _ _ _ _ _ _ _ _ (Act.put _ (some 78) _) _
     simp only [Act.put, List.setIfInBounds_toArray, List.set_cons_zero, List.set_cons_succ]
     clear hSS
     have hdy : Below w11.heap.size w11 (w11.alloc (.cells #[.slice a5 a.1.length k5, .slice a6 a.2.length k6] 44)) := (Below.refl _ _).alloc (Nat.le_refl _) _
     have hby := HB11.out.trans (hdy.mono HB11.out.size)
     have hmy := HMZ.out.next hby
     have hG := World.alloc_heap_new w11 (.cells #[.slice a5 a.1.length k5, .slice a6 a.2.length k6] 44)
     have HV7 := Lib.hid (SlK.own (B0 := w.heap.size) (RowI.below HV5b.out hdy) HI1.out); have HU7 := Lib.hid (SlK.own (B0 := w.heap.size) (RowI.below HV6.out hdy) HI2.out)
     refine wpAnyZ_oneG (i := 12) (by kernel_rfl) rfl (by rfl) (fun K hK => ?_)
     go_simp
     refine hK.out _ _ (.inr ⟨keepCell hby HC0Z.out, keepCell hby HC1Z.out⟩) ?_
     have hc0 := keepCell hby HC0Z.out
     have hc1 := keepCell hby HC1Z.out
     have HMY := Lib.hid hmy
     clear hK hdy hby hmy HV5b HV6 HB11 HMZ HC0Z HC1Z
     generalize w11.alloc (.cells #[.slice a5 a.1.length k5, .slice a6 a.2.length k6] 44) = Y at hG HV7 HU7 HMY hc0 hc1 ⊢
     obtain ⟨a10, n10, c10, rfl⟩ : ∃ a n c, u10 = .slice a n c := by obtain ⟨a, c, e⟩ := HMY.out.out.form; exact ⟨_, _, _, e⟩
     refine wpAnyZ_oneG (i := 13) (by kernel_rfl) rfl (by rfl) (fun K hK => ?_)
     refine wp_pushG (R := arrK w.heap.size) _ _ 47 44 rfl zeroArr 48 Tryz.underlying47 Tryz.infoAry (by rfl) (show 0 < 2 by decide) w.heap.size w.heap.size _ (keep_arrK _ _ (Nat.le_refl _)) _ (outs.take i) a _ rfl HMY.out.out rfl hG ⟨_, _, rfl, HV7.out, HU7.out⟩ (by unfold maxLen; rw [List.length_take]; omega) (by rw [List.length_take]; omega) (Nat.le_refl _) HMY.out.below.size ?_
     intro v8 w8 hs8 hb8 hg8 hk8
     have hmp := HMY.out.push hs8 hb8 hg8 hk8
     have hc0' : w8.cell? ⟨g, 0, none⟩ = some (.slice va' a.1.length vc') := (World.cell?_of_block (w := Y) (a := ⟨g, 0, none⟩) (hg8.block g (World.block_lt_of_cell? Y _ hc0) (fun e => HGO.out _ e.symm rfl))).trans hc0
     have hc1' : w8.cell? ⟨g, 1, none⟩ = some (.slice ua' a.2.length uc') := (World.cell?_of_block (w := Y) (a := ⟨g, 1, none⟩) (hg8.block g (World.block_lt_of_cell? Y _ hc0) (fun e => HGO.out _ e.symm rfl))).trans hc1
     refine hK.out _ _ (.inr ⟨hc0', hc1'⟩) ?_
     rw [← HO1.out] at hmp
     have HMP := Lib.hid hmp
     clear hK hs8 hb8 hg8 hk8 hmp hc0 hc1 hc0' hc1' HMY HV7 HU7 hG HGO HOB
     refine wpAnyZ_oneG (i := 14) (by kernel_rfl) rfl (by rfl) (fun K hK => ?_)
     go_simp
     refine hK.out _ _ (.inl (by omega)) ?_
     clear hK
     refine wpAnyZ_done (by kernel_rfl) ?_ _
     go_wp2_with fail
     go_roundw
     case rel =>
      refine ⟨i + 1, _, _, i + 1 + 1, _, by go_num, by omega, rfl, HMP.out, ?_⟩
      rw [HO2.out]
      exact HLL.out
     case measure => simp [Lib.intOf]; omega
  ·obtain rfl : i = lines.length := by omega
   have q : decide ((lines.length : Int) < (lines.length : Int)) = false := decide_eq_false (by omega)
   rw [List.drop_length] at hL
   have hout : outs.take lines.length = outs := by
    have h : outs.drop lines.length = [] := hL
    have := List.take_append_drop lines.length outs
    rw [h, List.append_nil] at this
    exact this
   rw [hout] at hmn
   have k70 := cell_of_row _ y7 0 _ _ _ hmn.b7
   have k71 := cell_of_row _ y7 1 _ _ _ hmn.b7
   have q70 := frozen_of_row _ y7 0 _ _ hmn.b7
   have q71 := frozen_of_row _ y7 1 _ _ hmn.b7
   have HMN := Lib.hid hmn
   clear hmn hL hout
   obtain ⟨a10, n10, c10, rfl⟩ : ∃ a n c, u10 = .slice a n c := by obtain ⟨a, c, e⟩ := HMN.out.out.form; exact ⟨_, _, _, e⟩
   go_wp2_with fail
   have h7 : ((wr.setCell { block := y7, off := 0 } (Value.int IntKind.i64 0)).setCell { block := y7, off := 1 } (Value.int IntKind.i64 0)).heap[y7]? = some (.cells #[.int .i64 0, .int .i64 0] 28 (0, 0)) := by
    rw [heap_setCell_same _ y7 1 _ _ _ (heap_setCell_same _ y7 0 _ _ _ HMN.out.b7)]; rfl
   refine bodyPost_ret (v := .tuple #[.slice a10 n10 c10, .agg #[.int .i64 0, .int .i64 0]]) (results_begin rfl _ _ rfl rfl h7 (by kernel_rfl)) rfl ?_
   have hb : Below w.heap.size wr ((wr.setCell { block := y7, off := 0 } (Value.int IntKind.i64 0)).setCell { block := y7, off := 1 } (Value.int IntKind.i64 0)) := ((Below.refl _ wr).setCell (p := ⟨y7, 0, none⟩) hy7 _).setCell (p := ⟨y7, 1, none⟩) hy7 _
   have hkt : ∀ t, 28 ≠ t → KeepTy t wr ((wr.setCell { block := y7, off := 0 } (Value.int IntKind.i64 0)).setCell { block := y7, off := 1 } (Value.int IntKind.i64 0)) := fun t ht =>
    (KeepTy.setCell (p := ⟨y7, 0, none⟩) (NotTy.of HMN.out.b7 ht) _).trans (KeepTy.setCell (p := ⟨y7, 1, none⟩) (NotTy.of (heap_setCell_same _ y7 0 _ _ _ HMN.out.b7) ht) _)
   exact ⟨_, rfl, HMN.out.out.turn hb (hkt _ (by decide)) (hkt _ (by decide)), HMN.out.below.trans hb⟩
end Go.Proofs.YtokghjnkfabgiaaGreatDoor

namespace Go.Proofs.YtokghjnkfabgiaaGreatDoor
open Go.RowKit Go.Lib
attribute [local go_sem] str_size str_get str_toList

theorem stk_cases {B0 M : Nat} {w : World} {v : Value} {st : List AryP} (h : StkI B0 M w v st.reverse) : (st = [] ∧ v = .slice none 0 0) ∨ ∃ g c, v = .slice (some ⟨g, 0, none⟩) st.length c ∧ st.length ≤ c := by
 obtain ⟨cs, h0, -⟩ := h
 obtain ⟨_, ⟨hv, h0⟩ | ⟨g', cap, cur, hv, _, _, hc, _⟩⟩ := h0
 ·exact .inl ⟨by simpa using h0, hv⟩
 ·rw [List.length_reverse] at hv hc
  exact .inr ⟨g', cap, hv, hc⟩
theorem SlK.nil (B0 : Nat) (w : World) : SlK B0 w (.slice none 0 0) [] := .inl ⟨⟨none, 0, rfl, Nat.le_refl _, Nat.zero_le _, fun _ => rfl, IntsAt.nil _ _ _, fun x hx => by cases hx⟩, fun h0 => absurd h0 (Nat.lt_irrefl 0)⟩
end Go.Proofs.YtokghjnkfabgiaaGreatDoor
