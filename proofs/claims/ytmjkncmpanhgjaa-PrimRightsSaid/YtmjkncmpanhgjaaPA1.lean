import Derived.Test.YtmjkncmpanhgjaaRows
import Derived.WalkKit
import Derived.ProofKit
import Derived.OpenShut
import Derived.Below
import Derived.WalkLawsBesides
import Derived.WalkSpells
import Derived.Lib.Hide
import Derived.Deep.QuietTactic
import Derived.BigQuiet
import Derived.Laws.CopyOwn
import Derived.RangeFuncBox
import Derived.Lib.SmallJoins
namespace Go.Proofs.Ytmjkncmpanhgjaa
set_option linter.unusedVariables false
set_option linter.unusedSimpArgs false
set_option maxRecDepth 100000
open Go.RowKit

theorem bcell {W w1 : World} {B : Nat} (hb : Below B W w1) : (∀ b o, b < B → w1.cell? ⟨b, o, none⟩ = W.cell? ⟨b, o, none⟩) ∧ (∀ b o, b < B → w1.frozen? ⟨b, o, none⟩ = W.frozen? ⟨b, o, none⟩) :=
  ⟨fun b o h => hb.cell (p := ⟨b, o, none⟩) h, fun b o h => hb.frozen (p := ⟨b, o, none⟩) h⟩

theorem ret_int {k : IntKind} {a b : Int} (h : a = b) : Ending.returned (.int k a) = .returned (.int k b) := by rw [h]
theorem ret_bool {a b : Bool} (h : a = b) : Ending.returned (.bool a) = .returned (.bool b) := by rw [h]

/-- A call of a function that has a body: it is entered. -/
theorem callFunc_enter {P : Program} {f : FuncId} {fn : Func} {c : Code} (hf : P.funcs[f]? = some fn) (hname : (fn.name == "runtime.NumGoroutine") = false) (hb : fn.body = some c) (args : Array Value) (w : World) :
    (callFunc f args).run P w = .ok (.enter f args) w := by
  have h1 : fn.name ≠ "runtime.NumGoroutine" := by simpa using hname
  simp [callFunc, hf, h1, hb]

theorem Below.drewN {B : Nat} (w : World) (n : Nat) : Below B w (w.drewN n) := ⟨rfl, rfl, rfl, Nat.le_refl _, fun _ _ => rfl⟩

/-- e has come back with the bool b, and nothing but draws has been done. -/
def SaysB (b : Bool) (w : World) (e : Ending) (w' : World) : Prop := e = .returned (.bool b) ∧ ∃ n, w' = w.drewN n
theorem SaysB.mk {b c : Bool} {w : World} {n : Nat} (h : b = c) : SaysB c w (.returned (.bool b)) (w.drewN n) := ⟨by rw [h], n, rfl⟩
theorem SaysB.mk0 {b c : Bool} {w : World} (h : b = c) : SaysB c w (.returned (.bool b)) w := ⟨by rw [h], 0, rfl⟩
theorem SaysB.drewN {b : Bool} {w w' : World} {e : Ending} {n : Nat} (h : SaysB b (w.drewN n) e w') : SaysB b w e w' := by
  obtain ⟨h1, m, h2⟩ := h
  exact ⟨h1, n + m, by rw [h2, World.drewN_drewN]⟩

def two (p : Int × Int) : Ending := .returned (.tuple #[.int .i64 p.1, .int .i64 p.2])
theorem ret_two {a b : Int} {p : Int × Int} (h : p = (a, b)) : Ending.returned (.tuple #[.int .i64 a, .int .i64 b]) = two p := by subst h; rfl


theorem bAfter {B : Nat} {w W W2 : World} (hB : Below B w W) (hs : B ≤ W.heap.size) (hb : Below W.heap.size W W2) : Below B w W2 := hB.trans (hb.mono hs)

theorem bNext {w W W2 : World} (hb : Below W.heap.size W W2) (hB : Below w.heap.size w W) : Below w.heap.size w W2 := hB.trans (hb.mono hB.size)
theorem own : ownKnob Try.prog.godebug = none := by kernel_rfl
theorem laidOut : laidOutB Try.prog = true := by kernel_rfl
end Go.Proofs.Ytmjkncmpanhgjaa

namespace Go.Proofs.Ytmjkncmpanhgjaa
set_option linter.unusedVariables false
set_option linter.unusedSimpArgs false
set_option maxRecDepth 100000
open Go.RowKit

/-- The numbers xs lie from address a on. -/
def IntsAt (k : IntKind) (w : World) (a : Option Addr) (xs : List Int) : Prop :=
  ∀ i, (h : i < xs.length) → ∃ b off, a = some ⟨b, off, none⟩ ∧ w.cell? ⟨b, off + i, none⟩ = some (.int k xs[i])

theorem IntsAt.nil (k : IntKind) (w : World) (a : Option Addr) : IntsAt k w a [] := fun i h => absurd h (Nat.not_lt_zero i)

theorem IntsAt.below {k : IntKind} {w w' : World} {B : Nat} {a : Option Addr} {xs : List Int} (h : IntsAt k w a xs) (hb : Below B w w') (hB : w.heap.size ≤ B) : IntsAt k w' a xs := by
  intro i hi
  obtain ⟨b, off, rfl, hc⟩ := h i hi
  have hl := World.block_lt_of_cell? w _ hc
  exact ⟨b, off, rfl, (hb.cell (p := ⟨b, off + i, none⟩) (Nat.lt_of_lt_of_le hl hB)).trans hc⟩

theorem IntsAt.drewN {k : IntKind} {w : World} {a : Option Addr} {xs : List Int} (h : IntsAt k w a xs) (n : Nat) : IntsAt k (w.drewN n) a xs := h
/-- v is a row of the call's own (from block B on) that reads as xs. -/
def RowI (B : Nat) (w : World) (v : Value) (xs : List Int) : Prop := w.ownsRow B 2 1 v xs.length (xs.map (Value.int .i64))
theorem RowI.nil (B : Nat) (w : World) : RowI B w (.slice none 0 0) [] := World.ownsRow_nil w B 2 1
/-- Such a row is a slice that reads as xs. -/
theorem RowI.slice {B : Nat} {w : World} {v : Value} {xs : List Int} (h : RowI B w v xs) : ∃ a cap, v = .slice a xs.length cap ∧ xs.length ≤ maxLen ∧ IntsAt .i64 w a xs := by
  obtain ⟨h1, ⟨hv, hn⟩ | ⟨g, cap, cur, hv, hB, hg, hnc, hcm, hcs, ht⟩⟩ := h
  · have hx : xs = [] := List.eq_nil_of_length_eq_zero hn
    subst hx
    exact ⟨none, 0, hv, Nat.zero_le _, IntsAt.nil _ _ _⟩
  · refine ⟨some ⟨g, 0, none⟩, cap, hv, Nat.le_trans hnc hcm, fun i hi => ⟨g, 0, rfl, ?_⟩⟩
    rw [Nat.zero_add, cell_of_row w g i cur 2 (0, 0) hg]
    have : (cur.toList.take (xs.length * 1))[i]? = some (.int .i64 xs[i]) := by rw [ht]; simp [hi]
    rw [List.getElem?_take, if_pos (by omega)] at this
    simpa using this
/-- It came back with a row of its own and a number. -/
def RetRow (B : Nat) (r : List Int × Int) (e : Ending) (w' : World) : Prop := ∃ v, e = .returned (.tuple #[v, .int .i64 r.2]) ∧ RowI B w' v r.1
theorem RowI.kept {B : Nat} {w w' : World} {v : Value} {xs : List Int} {row : Option Nat} (h : RowI B w v xs) (hg : w.grownBy w' row) (hne : v.ownBlock = none ∨ v.ownBlock ≠ row) : RowI B w' v xs := World.ownsRow.kept h hg hne
theorem grownBy_of_below {w w' : World} (h : Below w.heap.size w w') : w.grownBy w' none := ⟨h.os, h.tape, h.output, h.size, fun k hk _ => h.block k hk⟩
theorem RowI.below {B : Nat} {w w' : World} {v : Value} {xs : List Int} (h : RowI B w v xs) (hb : Below w.heap.size w w') : RowI B w' v xs :=
  h.kept (grownBy_of_below hb) (by cases v.ownBlock <;> simp)
theorem Try.info2 : (Try.prog.info? 2).map (fun i => (i.zero, i.size, i.bytes)) = some (some (.int .i64 0), 1, 8) := by kernel_rfl

/-- The builtin copy into a row that is known whole: what it leaves, and that no other block has turned. -/
theorem wpList_copy_grown {P : Program} {w : World} {ops : Array Oper} {rest : List Oper} {o : Oper} {a : Act} {Q : Exit → Act → World → Prop} (hgd : o.guard = none) (d s : Operand) (dT sT : TypeId)
    (ho : o.op = .call { callee := .builtin .copy, args := #[d, s], argTypes := #[dT, sT] }) (elem : TypeId) (hu : P.underlying dT = some (.slice elem)) (hsz : (P.info? elem).map (·.size) = some 1)
    (dp sp : Option Addr) (dLen dCap sLen sCap : Nat) (hd : a.eval d = .slice dp dLen dCap) (hs : a.eval s = .slice sp sLen sCap)
    (g off : Nat) (cur : List Value) (t : TypeId) (hg : w.heap[g]? = some (.cells cur.toArray t (0, 0))) (cs : List Value) (hn : cs.length = Nat.min sLen dLen)
    (hpos : 0 < cs.length → dp = some ⟨g, off, none⟩ ∧ ∃ ad, sp = some ad ∧ ∀ j v, cs[j]? = some v → w.cell? (ad.add j) = some v)
    (hfit : off + cs.length ≤ cur.length) (h1 : ∀ v ∈ cs, v.oneCell' = true)
    (h : ∀ w', Hid (w'.heap[g]? = some (.cells (splice cur off cs).toArray t (0, 0))) → w.grownBy w' (some g) → wpList P ops Q rest (a.put o.dst (goInt cs.length)) w') :
    wpList P ops Q (o :: rest) a w := by
  by_cases h0 : cs.length = 0
  · obtain rfl : cs = [] := List.eq_nil_of_length_eq_zero h0
    refine wpList_copy_nothing hgd d s dT sT ho elem hu hsz dp sp dLen dCap sLen sCap hd hs (by simpa using hn.symm) ?_
    exact h w (show _ = _ by simpa [splice] using hg) ⟨rfl, rfl, rfl, Nat.le_refl _, fun _ _ _ => rfl⟩
  · obtain ⟨rfl, ad, rfl, hsrc⟩ := hpos (by omega)
    refine wpList_copy_own hgd d s dT sT ho elem hu hsz g off dLen dCap ad sLen sCap hd hs cur.toArray t hg cs hn hsrc (by simpa using hfit) h1 ?_
    exact h _ (show _ = _ by simpa [splice] using setRow_heap w g _ _ t _ hg) ⟨rfl, rfl, rfl, by simp [World.setRow], fun k _ hk => setRow_other w g k _ (fun e => hk (by rw [e]))⟩

theorem splice_all {α : Type} (L cs : List α) (h : cs.length = L.length) : splice L 0 cs = cs := by
  unfold splice; rw [List.take_zero, List.nil_append, Nat.zero_add, List.drop_of_length_le (by omega), List.append_nil]

/-- What lies from an address on is the cells of a slice that reads as xs. -/
theorem IntsAt.src {k : IntKind} {w : World} {a : Option Addr} {xs : List Int} (h : IntsAt k w a xs) (h0 : 0 < xs.length) : ∃ ad, a = some ad ∧ ∀ j v, (xs.map (Value.int k))[j]? = some v → w.cell? (ad.add j) = some v := by
  obtain ⟨b, off, rfl, _⟩ := h 0 h0
  refine ⟨_, rfl, fun j v hv => ?_⟩
  have hj : j < xs.length := by
    by_cases hj : j < xs.length
    · exact hj
    · rw [List.getElem?_eq_none (by simpa using hj)] at hv; cases hv
  obtain ⟨b', off', e, hc⟩ := h j hj
  cases e
  rw [List.getElem?_map, List.getElem?_eq_getElem hj] at hv
  cases hv
  have : (⟨b, off, none⟩ : Addr).add j = ⟨b, off + j, none⟩ := by unfold Addr.add; split <;> simp_all
  rw [this]; exact hc
theorem oneCell_ints (k : IntKind) (xs : List Int) : ∀ v ∈ xs.map (Value.int k), v.oneCell' = true := by
  intro v hv; obtain ⟨x, _, rfl⟩ := List.mem_map.1 hv; rfl

/-- The address of a cut x[l:..] of a slice of capacity m. -/
def subA (a : Option Addr) (m l : Nat) : Option Addr := if m = l then a else a.map (·.add l)
theorem IntsAt.cut {k : IntKind} {w : World} {a : Option Addr} {xs : List Int} (h : IntsAt k w a xs) {m l n : Nat} (hm : xs.length ≤ m) : IntsAt k w (subA a m l) ((xs.drop l).take n) := by
  intro i hi
  rw [List.length_take, List.length_drop] at hi
  obtain ⟨b, off, rfl, hc⟩ := h (l + i) (by omega)
  refine ⟨b, off + l, ?_, ?_⟩
  · unfold subA
    rw [if_neg (by omega)]
    simp only [Option.map_some, Addr.add]
    split <;> simp_all
  · rw [List.getElem_take, List.getElem_drop, Nat.add_assoc]; exact hc
theorem sized2 (w : World) : (sizeOf (Try.prog.elem 22)).run Try.prog w = .ok 1 w := by kernel_rfl
theorem sliced_subA (a : Option Addr) (l h m : Nat) : sliced a l h m 1 = .slice (subA a m l) (h - l) (m - l) := by unfold sliced subA; rw [Nat.mul_one]
/-- x[l:h] of a []int64 -/
theorem slice_lh (w : World) (a : Option Addr) (len cap : Nat) (kl kh : IntKind) (l h : Int) (h0 : 0 ≤ l) (h1 : l ≤ h) (h2 : h ≤ cap) :
    (Instr.sliceAt 22 (.slice a len cap) (some (.int kl l)) (some (.int kh h)) none).run Try.prog w = .ok (.slice (subA a cap l.toNat) (h.toNat - l.toNat) (cap - l.toNat)) w := by
  rw [run_sliceAt_slice w 22 _ _ _ _ Try.underlying22, run_slice_lh w 22 a len cap Try.underlying22 kl kh l h h0 h1 h2, sized2]
  simp only [Result.andThen, sliced_subA]
/-- x[l:] of a []int64 -/
theorem slice_lo (w : World) (a : Option Addr) (len cap : Nat) (kl : IntKind) (l : Int) (h0 : 0 ≤ l) (h1 : l ≤ len) :
    (Instr.sliceAt 22 (.slice a len cap) (some (.int kl l)) none none).run Try.prog w = .ok (.slice (subA a cap l.toNat) (len - l.toNat) (cap - l.toNat)) w := by
  rw [run_sliceAt_slice w 22 _ _ _ _ Try.underlying22, run_slice_l w 22 a len cap Try.underlying22 kl l h0 h1, sized2]
  simp only [Result.andThen, sliced_subA]
/-- x[:h] of a []int64 -/
theorem slice_hi (w : World) (a : Option Addr) (len cap : Nat) (kh : IntKind) (h : Int) (h0 : 0 ≤ h) (h2 : h ≤ cap) :
    (Instr.sliceAt 22 (.slice a len cap) none (some (.int kh h)) none).run Try.prog w = .ok (.slice (subA a cap 0) h.toNat cap) w := by
  rw [run_sliceAt_slice w 22 _ _ _ _ Try.underlying22, run_slice_h w 22 a len cap Try.underlying22 kh h h0 h2, sized2]
  simp only [Result.andThen, sliced_subA, Nat.sub_zero]
/-- rows that share no block -/
def Apart (v u : Value) : Prop := v.ownBlock = none ∨ v.ownBlock ≠ u.ownBlock
/-- It came back with an array in memory of its own, and a number. -/
def RetArr (B : Nat) (r : (List Int × List Int) × Int) (e : Ending) (w' : World) : Prop :=
  ∃ v u, e = .returned (.tuple #[.agg #[v, u], .int .i64 r.2]) ∧ RowI B w' v r.1.1 ∧ RowI B w' u r.1.2 ∧ Apart v u

theorem IntsAt.lit (k : IntKind) (W : World) (t : TypeId) (xs : List Int) : IntsAt k (W.alloc (.cells (xs.map (Value.int k)).toArray t)) (some ⟨W.heap.size, 0, none⟩) xs := by
  intro i hi
  refine ⟨W.heap.size, 0, rfl, ?_⟩
  rw [Nat.zero_add, cell_of_row _ W.heap.size i _ t (0, 0) (World.alloc_heap_new W _)]
  simp [hi]
theorem IntsAt.lit2 (k : IntKind) (W : World) (o : Obj) (t : TypeId) (xs : List Int) : IntsAt k ((W.alloc o).alloc (.cells (xs.map (Value.int k)).toArray t)) (some ⟨W.heap.size + 1, 0, none⟩) xs := by
  have := IntsAt.lit k (W.alloc o) t xs
  rwa [World.size_alloc] at this
theorem IntsAt.lit1 (k : IntKind) (W : World) (o : Obj) (t : TypeId) (xs : List Int) : IntsAt k ((W.alloc (.cells (xs.map (Value.int k)).toArray t)).alloc o) (some ⟨W.heap.size, 0, none⟩) xs :=
  (IntsAt.lit k W t xs).below ((Below.refl _ _).alloc (Nat.le_refl _) o) (Nat.le_refl _)
end Go.Proofs.Ytmjkncmpanhgjaa

namespace Go.Proofs.Ytmjkncmpanhgjaa
set_option linter.unusedVariables false
set_option linter.unusedSimpArgs false
set_option maxRecDepth 100000
open Go.RowKit

/-- the first place from k on that p tells of, or -1 -/
def firstP (p : Int → Bool) : Nat → List Int → Int
  | _, [] => -1
  | k, x :: xs => if p x then k else firstP p (k + 1) xs

theorem firstP_step {p : Int → Bool} {k : Nat} {xs : List Int} (h : k < xs.length) : firstP p k (xs.drop k) = if p xs[k] then (k : Int) else firstP p (k + 1) (xs.drop (k + 1)) := by
  rw [List.drop_eq_getElem_cons h, firstP]

theorem firstP_nonneg {p : Int → Bool} : ∀ (xs : List Int) (k : Nat), decide (0 ≤ firstP p k xs) = xs.any p
  | [], k => by simp [firstP]
  | x :: xs, k => by
    rw [firstP]
    by_cases h : p x
    · simp [h]
    · simp [h, firstP_nonneg xs (k + 1)]

set_option maxHeartbeats 400000 in
theorem sindex_any (w : World) (a : Option Addr) (cap : Nat) (xs : List Int) (v : Int) (hm : xs.length ≤ maxLen) (h : IntsAt .i64 w a xs) :
    Calls Try.prog 93 #[.slice a xs.length cap, .int .i64 v] w fun e w' => e = .returned (.int .i64 (firstP (v == ·) 0 xs)) ∧ w = w' := by
  unfold maxLen at hm
  go_enter Try.func93, Try.ntmps93
  go_wp2
  go_loop [8] (fun i => ∃ k : Nat, k ≤ xs.length ∧ i = .int .i64 k ∧ firstP (v == ·) 0 xs = firstP (v == ·) k (xs.drop k)) (fun i => xs.length - (intOf i).toNat)
  case atStart => exact ⟨0, Nat.zero_le _, rfl, rfl⟩
  case round =>
    obtain ⟨k, hk, rfl, hr⟩ := hrel
    by_cases hlt : k < xs.length
    · obtain ⟨b, off, rfl, hc⟩ := h k hlt
      rw [firstP_step hlt] at hr
      have Hr := Lib.hid hr; clear hr h
      by_cases hv : (v == xs[k]) = true
      · go_wp2
        go_ret
        exact ⟨ret_int (by rw [Hr.out, if_pos hv]), rfl⟩
      · have hv' : (v == xs[k]) = false := by simpa using hv
        go_wp2
        go_round
        case rel => exact ⟨k + 1, by omega, by go_num, by rw [Hr.out, if_neg hv]⟩
        case measure => simp [intOf]; omega
    · have Hr := Lib.hid hr; clear hr h
      go_wp2
      go_ret
      exact ⟨ret_int (by rw [Hr.out, List.drop_eq_nil_of_le (by omega)]; rfl), rfl⟩

set_option maxHeartbeats 400000 in
theorem contains_any (w : World) (a : Option Addr) (cap : Nat) (xs : List Int) (v : Int) (hm : xs.length ≤ maxLen) (h : IntsAt .i64 w a xs) :
    Calls Try.prog 84 #[.slice a xs.length cap, .int .i64 v] w fun e w' => e = .returned (.bool (xs.any (v == ·))) ∧ w = w' := by
  go_enter Try.func84, Try.ntmps84
  go_wp2_with (go_at_call 93; refine (sindex_any _ a cap xs v hm h).mono ?_; rintro e w' ⟨rfl, rfl⟩)
  go_ret
  exact ⟨ret_bool (firstP_nonneg _ _), rfl⟩

set_option maxHeartbeats 400000 in
theorem indexFunc_any (w : World) (a : Option Addr) (cap : Nat) (xs : List Int) (g : FuncId) (cs : Array Value) (p : Int → Bool) (hg : ∀ args w, (callFunc g args).run Try.prog w = .ok (.enter g args) w) (hm : xs.length ≤ maxLen) (h : IntsAt .i64 w a xs)
    (hp : ∀ x ∈ xs, ∀ w', Below w.heap.size w w' → Calls Try.prog g (#[.int .i64 x] ++ cs) w' fun e w'' => e = .returned (.bool (p x)) ∧ Below w.heap.size w' w'') :
    Calls Try.prog 92 #[.slice a xs.length cap, .func (.func g) #[] cs] w fun e w' => e = .returned (.int .i64 (firstP p 0 xs)) ∧ Below w.heap.size w w' := by
  unfold maxLen at hm
  go_enter Try.func92, Try.ntmps92
  go_wp2
  go_loopw [8] (fun i wr => ∃ k : Nat, k ≤ xs.length ∧ i = .int .i64 k ∧ firstP p 0 xs = firstP p k (xs.drop k) ∧ Below w.heap.size w wr) (fun i _ => xs.length - (intOf i).toNat)
  case atStart => exact ⟨0, Nat.zero_le _, rfl, rfl, Below.refl _ _⟩
  case round =>
    obtain ⟨k, hk, rfl, hr, hbel⟩ := hrel
    by_cases hlt : k < xs.length
    · obtain ⟨b, off, rfl, hc⟩ := (h.below hbel (Nat.le_refl _)) k hlt
      rw [firstP_step hlt] at hr
      have Hr := Lib.hid hr; clear hr h
      have hq := Lib.hid (hp xs[k] (List.getElem_mem hlt) wr hbel)
      clear hp
      by_cases hv : p xs[k] = true
      · rw [hv] at hq
        go_wp2_with (refine hq.out.mono ?_; rintro e w' ⟨rfl, hb1⟩)
        go_ret
        exact ⟨ret_int (by rw [Hr.out, if_pos hv]), hbel.trans hb1⟩
      · have hv' : p xs[k] = false := by simpa using hv
        rw [hv'] at hq
        go_wp2_with (refine hq.out.mono ?_; rintro e w' ⟨rfl, hb1⟩)
        go_roundw
        case rel => exact ⟨k + 1, by omega, by go_num, by rw [Hr.out, if_neg hv], hbel.trans hb1⟩
        case measure => simp [intOf]; omega
    · have Hr := Lib.hid hr; clear hr h hp
      go_wp2
      go_ret
      exact ⟨ret_int (by rw [Hr.out, List.drop_eq_nil_of_le (by omega)]; rfl), hbel⟩

set_option maxHeartbeats 400000 in
theorem containsFunc_any (w : World) (a : Option Addr) (cap : Nat) (xs : List Int) (g : FuncId) (cs : Array Value) (p : Int → Bool) (hg : ∀ args w, (callFunc g args).run Try.prog w = .ok (.enter g args) w) (hm : xs.length ≤ maxLen) (h : IntsAt .i64 w a xs)
    (hp : ∀ x ∈ xs, ∀ w', Below w.heap.size w w' → Calls Try.prog g (#[.int .i64 x] ++ cs) w' fun e w'' => e = .returned (.bool (p x)) ∧ Below w.heap.size w' w'') :
    Calls Try.prog 78 #[.slice a xs.length cap, .func (.func g) #[] cs] w fun e w' => e = .returned (.bool (xs.any p)) ∧ Below w.heap.size w w' := by
  have hq := Lib.hid (indexFunc_any w a cap xs g cs p hg hm h hp)
  clear hp h
  go_enter Try.func78, Try.ntmps78
  go_wp2_with (go_at_call 92; refine hq.out.mono ?_; rintro e w' ⟨rfl, hb1⟩)
  go_ret
  exact ⟨ret_bool (firstP_nonneg _ _), hb1⟩

end Go.Proofs.Ytmjkncmpanhgjaa

namespace Go.Proofs.Ytmjkncmpanhgjaa
set_option linter.unusedVariables false
set_option linter.unusedSimpArgs false
set_option maxRecDepth 100000

def badSide (s : Int) : Bool := decide (s < 0) || decide (65536 < s)

theorem badSide_false {s : Int} (h : badSide s = false) : 0 ≤ s ∧ s ≤ 65536 := by
  simp [badSide] at h; exact h

/-- the product from n on, or too great -/
def prodTo : Int → List Int → Int × Int
  | n, [] => (n, 0)
  | n, s :: r => if 65536 < n * s then (0, 61) else prodTo (n * s) r

/-- how many numbers an array of these sides has -/
def size (xs : List Int) : Int × Int :=
  if 4 < xs.length then (0, 61) else if xs.any badSide then (0, 61) else if xs.any ((0 : Int) == ·) then (0, 0) else prodTo 1 xs

theorem prodTo_step {n : Int} {k : Nat} {xs : List Int} (h : k < xs.length) :
    prodTo n (xs.drop k) = if 65536 < n * xs[k] then (0, 61) else prodTo (n * xs[k]) (xs.drop (k + 1)) := by
  rw [List.drop_eq_getElem_cons h, prodTo]

theorem any_false_get {p : Int → Bool} {xs : List Int} (h : xs.any p = false) (k : Nat) (hk : k < xs.length) : p xs[k] = false := by
  rw [List.any_eq_false] at h
  simpa using h xs[k] (List.getElem_mem hk)

theorem mul_bd {a b : Int} (h1 : 0 ≤ a) (h2 : a ≤ 65536) (h3 : 0 ≤ b) (h4 : b ≤ 65536) : 0 ≤ a * b ∧ a * b ≤ 4294967296 := by
  refine ⟨Int.mul_nonneg h1 h3, ?_⟩
  have := Int.mul_le_mul h2 h4 h3 (by omega : (0 : Int) ≤ 65536)
  omega

theorem any_take_succ {p : Int → Bool} {xs : List Int} {k : Nat} (hk : k < xs.length) : (xs.take (k + 1)).any p = ((xs.take k).any p || p xs[k]) := by
  rw [List.take_succ_eq_append_getElem hk, List.any_append]; simp only [List.any_cons, List.any_nil, Bool.or_false]

theorem size_bad {xs : List Int} (h : xs.any badSide = true) : size xs = (0, 61) := by
  unfold size
  by_cases h4 : 4 < xs.length
  · rw [if_pos h4]
  · rw [if_neg h4, if_pos h]

def prodL : List Int → Int
  | [] => 1
  | s :: r => s * prodL r

theorem prodL_append (a b : List Int) : prodL (a ++ b) = prodL a * prodL b := by
  induction a with
  | nil => simp [prodL]
  | cons x a ih => simp only [List.cons_append, prodL, ih, Int.mul_assoc]

theorem prodL_pos {l : List Int} (h : ∀ x ∈ l, 0 < x) : 0 < prodL l := by
  induction l with
  | nil => simp [prodL]
  | cons x l ih => exact Int.mul_pos (h x (by simp)) (ih fun y hy => h y (by simp [hy]))

theorem prodTo_ok : ∀ (xs : List Int) (n m : Int), prodTo n xs = (m, 0) → m = n * prodL xs ∧ (0 < xs.length → m ≤ 65536)
  | [], n, m, h => by simp [prodTo] at h; simp [prodL, h]
  | s :: r, n, m, h => by
    rw [prodTo] at h
    split at h
    · simp at h
    · obtain ⟨h1, h2⟩ := prodTo_ok r (n * s) m h
      refine ⟨by rw [h1, prodL, Int.mul_assoc], fun _ => ?_⟩
      cases r with
      | nil => simp [prodTo] at h; omega
      | cons y r => exact h2 (by simp)

theorem prodTo_err : ∀ (xs : List Int) (n : Int), prodTo n xs = (0, 61) ∨ ∃ m, prodTo n xs = (m, 0)
  | [], n => .inr ⟨n, rfl⟩
  | s :: r, n => by
    rw [prodTo]
    split
    · exact .inl rfl
    · exact prodTo_err r (n * s)

theorem size_err (xs : List Int) : size xs = (0, 61) ∨ ∃ m, size xs = (m, 0) := by
  unfold size
  split
  · exact .inl rfl
  · split
    · exact .inl rfl
    · split
      · exact .inr ⟨0, rfl⟩
      · exact prodTo_err xs 1

/-- sides that may be: what is known of them -/
structure Good (xs : List Int) (n : Int) : Prop where
  len : xs.length ≤ 4
  side : ∀ x ∈ xs, 0 ≤ x ∧ x ≤ 65536
  prod : n = prodL xs
  le : n ≤ 65536
  zero : n = 0 ↔ ∃ x ∈ xs, x = 0

theorem prodL_zero {l : List Int} (h : (0 : Int) ∈ l) : prodL l = 0 := by
  induction l with
  | nil => simp at h
  | cons x l ih =>
    rcases List.mem_cons.1 h with h | h
    · subst h; simp [prodL]
    · simp [prodL, ih h]

theorem size_good {xs : List Int} {n : Int} (h : size xs = (n, 0)) : Good xs n := by
  unfold size at h
  split at h
  · simp at h
  · rename_i h4
    split at h
    · simp at h
    · rename_i hb
      have hb' : xs.any badSide = false := by simpa using hb
      have hs : ∀ x ∈ xs, 0 ≤ x ∧ x ≤ 65536 := fun x hx => badSide_false (by rw [List.any_eq_false] at hb'; simpa using hb' x hx)
      split at h
      · rename_i hz
        obtain ⟨x, hx, hx0⟩ := List.any_eq_true.1 hz
        have hx0 : x = 0 := by simpa using (beq_iff_eq.1 hx0).symm
        have hn : n = 0 := by simp at h; omega
        subst hx0
        exact ⟨by omega, hs, by rw [hn, prodL_zero hx], by omega, by simp [hn]; exact hx⟩
      · rename_i hz
        have hz' : ∀ x ∈ xs, x ≠ 0 := fun x hx e => hz (List.any_eq_true.2 ⟨x, hx, by simp [e]⟩)
        obtain ⟨h1, h2⟩ := prodTo_ok xs 1 n h
        have hp : 0 < prodL xs := prodL_pos fun x hx => by have := hs x hx; have := hz' x hx; omega
        refine ⟨by omega, hs, by simpa using h1, ?_, ?_⟩
        · cases xs with
          | nil => simp [prodL] at h1; omega
          | cons y r => exact h2 (by simp)
        · constructor
          · intro h0; rw [h0] at h1; omega
          · rintro ⟨x, hx, e⟩; exact absurd e (hz' x hx)

theorem prodL_le_pow {l : List Int} (h : ∀ x ∈ l, 0 ≤ x ∧ x ≤ 65536) : 0 ≤ prodL l ∧ prodL l ≤ 65536 ^ l.length := by
  induction l with
  | nil => simp [prodL]
  | cons x l ih =>
    have ⟨h0, h1⟩ := ih fun y hy => h y (by simp [hy])
    have ⟨x0, x1⟩ := h x (by simp)
    refine ⟨Int.mul_nonneg x0 h0, ?_⟩
    show x * prodL l ≤ _
    rw [List.length_cons, Int.pow_succ, Int.mul_comm (65536 ^ _)]
    exact Int.mul_le_mul x1 h1 h0 (by omega)

theorem prodL_take_le {xs : List Int} {n : Int} (g : Good xs n) {k : Nat} : prodL (xs.take k) ≤ 281474976710656 := by
  by_cases hk : (xs.take k).length ≤ 3
  · have ⟨h0, h1⟩ := prodL_le_pow (l := xs.take k) fun x hx => g.side x (List.mem_of_mem_take hx)
    refine Int.le_trans h1 ?_
    generalize (xs.take k).length = m at hk
    match m, hk with
    | 0, _ => decide
    | 1, _ => decide
    | 2, _ => decide
    | 3, _ => decide
  · have hl : (xs.take k).length = min k xs.length := List.length_take
    have hkl : xs.length ≤ k := by have := g.len; omega
    rw [List.take_of_length_le hkl] at *
    rw [← g.prod]
    have := g.le
    omega

/-- a place by sides, from n on -/
def placeTo : Int → List Int → List Int → Int × Int
  | n, s :: ss, k :: ks => if k < 0 ∨ s ≤ k then (0, 62) else placeTo (n * s + k) ss ks
  | n, _, _ => (n, 0)

/-- where a number stands in the list -/
def place (sides index : List Int) : Int × Int :=
  if (size sides).2 = 0 then (if index.length = sides.length then placeTo 0 sides index else (0, 62)) else (0, (size sides).2)

theorem placeTo_step {n : Int} {k : Nat} {xs ys : List Int} (h : k < xs.length) (h2 : k < ys.length) :
    placeTo n (xs.drop k) (ys.drop k) = if ys[k] < 0 ∨ xs[k] ≤ ys[k] then (0, 62) else placeTo (n * xs[k] + ys[k]) (xs.drop (k + 1)) (ys.drop (k + 1)) := by
  rw [List.drop_eq_getElem_cons h, List.drop_eq_getElem_cons h2, placeTo]
theorem prodL_take_succ {xs : List Int} {k : Nat} (hk : k < xs.length) : prodL (xs.take (k + 1)) = prodL (xs.take k) * xs[k] := by
  rw [List.take_succ_eq_append_getElem hk, prodL_append]; simp [prodL]

/-- one step more of a place stays below the product -/
theorem place_bd {n s k P : Int} (h0 : 0 ≤ n) (h1 : n < P) (k0 : 0 ≤ k) (k1 : k < s) : 0 ≤ n * s ∧ 0 ≤ n * s + k ∧ n * s + k < P * s := by
  have a := Int.mul_nonneg h0 (by omega : 0 ≤ s)
  have b : (n + 1) * s ≤ P * s := Int.mul_le_mul_of_nonneg_right (by omega) (by omega)
  rw [Int.add_mul] at b
  exact ⟨a, by omega, by omega⟩

/-- the index by sides of the number at place p -/
def idx : List Int → Int → List Int
  | [], _ => []
  | s :: r, p => (p / prodL r) % s :: idx r p

theorem length_idx : ∀ (xs : List Int) (p : Int), (idx xs p).length = xs.length
  | [], _ => rfl
  | _ :: r, p => by simp [idx, length_idx r p]

/-- where the number at a place of the list stands by the sides -/
def index (sides : List Int) (p : Int) : List Int × Int :=
  if (size sides).2 = 0 then (if p < 0 ∨ (size sides).1 ≤ p then ([], 62) else (idx sides p, 0)) else ([], (size sides).2)

theorem idx_drop {xs : List Int} {j : Nat} (h : j < xs.length) (p : Int) : idx (xs.drop j) p = (p / prodL (xs.drop (j + 1))) % xs[j] :: idx (xs.drop (j + 1)) p := by
  rw [List.drop_eq_getElem_cons h, idx]
theorem prodL_drop {xs : List Int} {j : Nat} (h : j < xs.length) : prodL (xs.drop j) = prodL (xs.drop (j + 1)) * xs[j] := by
  rw [List.drop_eq_getElem_cons h, prodL, Int.mul_comm]
theorem set_replicate {α : Type} (z v : α) (j : Nat) (l : List α) : (List.replicate (j + 1) z ++ l).set j v = List.replicate j z ++ v :: l := by
  induction j with
  | zero => rfl
  | succ j ih => rw [List.replicate_succ, List.cons_append, List.set_cons_succ, ih, List.replicate_succ, List.cons_append]
end Go.Proofs.Ytmjkncmpanhgjaa
