import Derived.Test.YtbhhmfkipfedfaaW11
namespace Go.Proofs.Ytbhhmfkipfedfaa
open Go.RowKit

/-- v is a row of the call's own (from block B on) of rows of the call's own that read as xss; no two of them share a block. -/
def RowR (B : Nat) (w : World) (v : Value) (xss : List (List Int)) : Prop :=
  ∃ vs : List Value, w.ownsRow B 22 1 v xss.length vs ∧ ∀ i, (h : i < xss.length) → ∃ u, vs[i]? = some u ∧ RowI B w u xss[i] ∧ ∀ j u', i < j → vs[j]? = some u' → Apart u u'
theorem RowR.nil (B : Nat) (w : World) : RowR B w (.slice none 0 0) [] := ⟨[], World.ownsRow_nil w B 22 1, fun i h => absurd h (Nat.not_lt_zero i)⟩

theorem outer_ne {B B' : Nat} {w : World} {v u : Value} {n : Nat} {vs : List Value} {ys : List Int} (h : w.ownsRow B 22 1 v n vs) (h2 : RowI B' w u ys) : u.ownBlock = none ∨ u.ownBlock ≠ v.ownBlock := by
  obtain ⟨_, ⟨rfl, _⟩ | ⟨g, cap, cur, rfl, _, hg, _⟩⟩ := h
  · cases hu : u.ownBlock with
    | none => exact .inl rfl
    | some k => exact .inr (by simp [Value.ownBlock])
  · obtain ⟨_, ⟨rfl, _⟩ | ⟨g2, cap2, cur2, rfl, _, hg2, _⟩⟩ := h2
    · exact .inl rfl
    · refine .inr fun e => ?_
      simp [Value.ownBlock] at e
      subst e
      rw [hg] at hg2
      simp at hg2

theorem RowR.below {B : Nat} {w w' : World} {v : Value} {xss : List (List Int)} (h : RowR B w v xss) (hb : Below w.heap.size w w') : RowR B w' v xss := by
  obtain ⟨vs, hown, hin⟩ := h
  refine ⟨vs, World.ownsRow.kept hown (grownBy_of_below hb) (by cases v.ownBlock <;> simp), fun i hi => ?_⟩
  obtain ⟨u, h1, h2, h3⟩ := hin i hi
  exact ⟨u, h1, h2.below hb, h3⟩

theorem RowR.push {B : Nat} {w1 w2 : World} {v v' u : Value} {vs : List Value} {xss : List (List Int)} {ys : List Int} (hown : w1.ownsRow B 22 1 v xss.length vs)
    (hin : ∀ i, (h : i < xss.length) → ∃ u, vs[i]? = some u ∧ RowI B w1 u xss[i] ∧ ∀ j u', i < j → vs[j]? = some u' → Apart u u')
    (hu : RowI B w1 u ys) (hap : ∀ (i : Nat) (x : Value), vs[i]? = some x → Apart x u) (hown2 : w2.ownsRow B 22 1 v' (xss.length + 1) (vs ++ [u])) (hg : w1.grownBy w2 v.ownBlock) : RowR B w2 v' (xss ++ [ys]) := by
  have hl : vs.length = xss.length := by have := hown.1; omega
  refine ⟨vs ++ [u], by simpa using hown2, fun i hi => ?_⟩
  by_cases h : i < xss.length
  · obtain ⟨x, h1, h2, h3⟩ := hin i h
    refine ⟨x, by rw [List.getElem?_append_left (by omega)]; exact h1, ?_, fun j u' hj hu' => ?_⟩
    · rw [List.getElem_append_left h]
      exact h2.kept hg (outer_ne hown h2)
    · by_cases hj2 : j < vs.length
      · rw [List.getElem?_append_left hj2] at hu'; exact h3 j u' hj hu'
      · rw [List.getElem?_append_right (by omega)] at hu'
        have : j - vs.length = 0 := by
          by_cases hz : j - vs.length = 0
          · exact hz
          · rw [List.getElem?_eq_none (by simp; omega)] at hu'; cases hu'
        rw [this] at hu'
        cases hu'
        exact hap i x h1
  · simp at hi
    have hi' : i = xss.length := by omega
    subst hi'
    refine ⟨u, by rw [← hl]; simp, ?_, fun j u' hj hu' => ?_⟩
    · simp
      exact hu.kept hg (outer_ne hown hu)
    · rw [List.getElem?_eq_none (by simp; omega)] at hu'; cases hu'

theorem RowR.mono {B B' : Nat} {w : World} {v : Value} {xss : List (List Int)} (h : RowR B w v xss) (hB : B' ≤ B) : RowR B' w v xss := by
  obtain ⟨vs, ⟨h1, h2⟩, hin⟩ := h
  refine ⟨vs, ⟨h1, ?_⟩, fun i hi => ?_⟩
  · rcases h2 with h2 | ⟨g, cap, cur, hv, hb, r⟩
    · exact .inl h2
    · exact .inr ⟨g, cap, cur, hv, Nat.le_trans hB hb, r⟩
  · obtain ⟨u, a, b, c⟩ := hin i hi
    exact ⟨u, a, b.mono hB, c⟩

/-- the k first parts of m numbers each -/
def chunks (m : Nat) (xs : List Int) (k : Nat) : List (List Int) := (List.range k).map fun i => (xs.drop (i * m)).take m
theorem chunks_succ (m : Nat) (xs : List Int) (k : Nat) : chunks m xs (k + 1) = chunks m xs k ++ [(xs.drop (k * m)).take m] := by simp [chunks, List.range_succ]
theorem chunks_len (m : Nat) (xs : List Int) (k : Nat) : (chunks m xs k).length = k := by simp [chunks]
/-- the last side, or 1 -/
def lastOf (s : List Int) : Int := s.getLast?.getD 1
def lanes (s d : List Int) : List (List Int) × Int := if right s d then (chunks (lastOf s).toNat d (d.length / (lastOf s).toNat), 0) else ([], 60)
/-- It came back with rows in memory of its own, and a number. -/
def RetRows (B : Nat) (r : List (List Int) × Int) (e : Ending) (w' : World) : Prop := ∃ v, e = .returned (.tuple #[v, .int .i64 r.2]) ∧ RowR B w' v r.1
theorem Try.infoR : (Try.prog.info? 22).map (fun i => (i.zero, i.size, i.bytes)) = some (some (.slice none 0 0), 1, 24) := by kernel_rfl
theorem prodL_last {s : List Int} (h : s ≠ []) : prodL s = prodL s.dropLast * lastOf s := by
  have e := List.dropLast_concat_getLast h
  have hl : lastOf s = s.getLast h := by unfold lastOf; rw [List.getLast?_eq_some_getLast h]; rfl
  conv => lhs; rw [← e]
  rw [prodL_append, hl]
  simp [prodL]
theorem lanes_facts {s d : List Int} (h : right s d = true) (h0 : 0 < d.length) : ∃ m q : Nat, lastOf s = m ∧ 1 ≤ m ∧ m ≤ 65536 ∧ q * m = d.length := by
  obtain ⟨_, g⟩ := right_good h
  by_cases hs : s = []
  · subst hs
    exact ⟨1, d.length, rfl, by omega, by omega, by omega⟩
  · have hl : lastOf s ∈ s := by unfold lastOf; rw [List.getLast?_eq_some_getLast hs]; exact List.getLast_mem hs
    have hb := g.side _ hl
    have hp := g.prod
    rw [prodL_last hs] at hp
    obtain ⟨m, hm⟩ := Int.eq_ofNat_of_zero_le hb.1
    rw [hm] at hp hb
    have hm1 : m ≠ 0 := by rintro rfl; rw [Int.natCast_zero, Int.mul_zero] at hp; omega
    have hq0 : 0 ≤ prodL s.dropLast := (prodL_le_pow (l := s.dropLast) (fun x hx => g.side x (List.dropLast_subset _ hx))).1
    obtain ⟨q, hq⟩ := Int.eq_ofNat_of_zero_le hq0
    rw [hq] at hp
    exact ⟨m, q, hm, by omega, by omega, by exact_mod_cast hp.symm⟩
end Go.Proofs.Ytbhhmfkipfedfaa
