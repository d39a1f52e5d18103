import Derived.Test.YtokghjnkfabgiaaGreatDoorTD23
import Derived.Test.YtokghjnkfabgiaaGreatDoorTD8
import Derived.OrdersHeld
import Derived.Deep.RegionHeld3
import Derived.Laws.CopyOwn
import Derived.Test.YtokghjnkfabgiaaGreatDoorTD1
import Derived.WalkSpells
set_option linter.unusedVariables false
set_option linter.unusedSimpArgs false
set_option maxRecDepth 100000
namespace Go
theorem Oper.wpIn_round {P : Program} {o : Oper} {a : Act} {w : World} {K : Act → World → Prop} {Q : Exit → Act → World → Prop} (l n : Nat) (hd : ∀ c, o.op ≠ .defer c) (h : o.wp P a w K Q) :
  o.wpIn (Fence.wide.inRound l) n P a w K Q := by
 refine ⟨fun _ _ => trivial, ?_⟩
 unfold Oper.wp at h
 rw [show (Fence.wide.inRound l).round = some l from rfl, Oper.semAt_some l a.eval o hd]
 generalize (execOp a.eval o).run P w = r at h ⊢
 cases r with
 | ok nx w' =>
  cases nx with
  | value v => exact h
  | skip => exact h
  | defer d => exact h
  | enter f args => exact ⟨fun e => absurd e (by simp [Fence.wide, Fence.inRound]), CallsIn.inRound l (callsIn_wide.2 h)⟩
  | row row args => exact ⟨fun e => absurd e (by simp [Fence.wide, Fence.inRound]), fun c cs _ => let ⟨v, w2, hr, hs⟩ := h c cs; ⟨v, w2, hr, stepsIn_wide.2 hs⟩⟩
  | _ => exact h.elim
 | halt x w' =>
  cases x <;> first | exact h | exact h.elim

theorem wpAnyIn_round {P : Program} {ops : Array Oper} {Q : Exit → Act → World → Prop} {md : Region.Mode} (l n : Nat) (hd : ∀ (i : Nat) (o : Oper), ops[i]? = some o → ∀ c, o.op ≠ .defer c) (hout : ¬ LetsOut Q) :
  ∀ (fuel : Nat) (listed : Array Bool) (a : Act) (w : World), wpAny P md ops Q fuel listed a w → wpAnyIn (Fence.wide.inRound l) n P md ops Q fuel listed a w
 | 0, _, _, _, h => h
 | fuel + 1, listed, a, w, h => ⟨h.1, fun i hi => by
   have hh := h.2 i hi
   unfold wpOp at hh
   unfold wpOpIn
   split
   ·rename_i ho; simp only [ho] at hh; exact wpAnyIn_round l n hd hout fuel _ _ _ hh
   ·rename_i o ho
    simp only [ho] at hh
    by_cases hw : Region.wanted o (yielded ops a.tmps) = true
    ·rw [if_pos hw] at hh ⊢
     rcases hh with hh | hh
     ·exact Oper.wpIn_mono (fun a' w' h' => wpAnyIn_round l n hd hout fuel _ a' w' h') (Oper.wpIn_round l n (hd i o ho) hh)
     ·exact absurd hh.2 hout
    ·rw [if_neg hw] at hh ⊢
     exact ⟨fun _ _ => trivial, wpAnyIn_round l n hd hout fuel _ _ _ hh⟩⟩

section
variable {P : Program} {ops : Array Oper} {Q : Exit → Act → World → Prop} {md : Region.Mode} {S : World → Prop} {z : Nat}
theorem wpIn_region_roundZ {id : Nat} {a : Act} {w : World} (l n : Nat) (hm : P.follows .mixedOrders = true)
  (hd : ops.all (fun o => match o.op with | .defer _ => false | _ => true) = true) (hout : ¬ LetsOut Q)
  (h : wpAnyZ P .any ops Q S z ops.size (Array.replicate ops.size false) a w.drew) : (Code.region id ops true).wpIn (Fence.wide.inRound l) n P Q a w :=
 wpIn_region_any hm (wpAnyIn_round l n (fun i o ho c e => by
  have := Array.all_eq_true.1 hd i (Array.getElem?_eq_some_iff.1 ho).1
  rw [(Array.getElem?_eq_some_iff.1 ho).2, e] at this
  cases this) hout _ _ _ _ (wpAny_of_Z _ _ _ _ h))
end
end Go

-- DROPS
namespace Go.Proofs.YtokghjnkfabgiaaGreatDoor
open Go.RowKit
attribute [local go_sem] Oper.semAt_some

theorem not_row {W : World} {k : Nat} {row : Option Nat} {cs : Array Value} {t : TypeId} {m : Nat × Nat} (h : W.heap[k]? = some (.cells cs t m)) (hr : ∀ r, row = some r → ∃ o : Obj, W.heap[r]? = some o ∧ o.isCells = false) : some k ≠ row := by
 intro e
 obtain ⟨o, ho, hc⟩ := hr k e.symm
 rw [h] at ho
 cases ho
 cases hc

end Go.Proofs.YtokghjnkfabgiaaGreatDoor

-- DROPS
namespace Go.Proofs.YtokghjnkfabgiaaGreatDoor
open Go.RowKit

theorem eqlNil (w : World) (a : Option Addr) (l c : Nat) : (binOp .eql 42 (.slice a l c) (.slice none 0 0)).run Tryz.prog w = .ok (.bool a.isNone) w := Lib.run_eql_slice_nil w 42 2 a l c 0 0 Tryz.underlying42

set_option maxHeartbeats 1000000 in
theorem clone_any (w : World) (a : Option Addr) (c : Nat) (xs : List Int) (hm : xs.length ≤ 17592186044416) (h : IntsAt .i64 w a xs) :
  Calls Tryz.prog 59 #[.slice a xs.length c] w fun e w' => (∃ v, e = .returned v ∧ RowI w.heap.size w' v xs) ∧ Below w.heap.size w w' := by
 obtain ⟨i0, hi, hz0, hz1, hz2⟩ := info_parts Tryz.info2
 cases a with
 | none =>
  have hx : xs = [] := by
   cases xs with
   | nil => rfl
   | cons x xs => obtain ⟨b, off, e, _⟩ := h 0 (by simp); cases e
  subst hx
  clear h hm hi hz0 hz1 hz2
  have hn := eqlNil w none 0 c
  go_enter Tryz.func59, Tryz.ntmps59
  go_wp2
  go_ret
  exact ⟨⟨_, rfl, RowI.nil _ _⟩, Below.refl _ _⟩
 | some ad =>
  have Hi := Lib.hid hi; have Hz0 := Lib.hid hz0; have Hz1 := Lib.hid hz1; have Hz2 := Lib.hid hz2; clear hi hz0 hz1 hz2
  have hsrc : ∀ j v, (xs.map (Value.int .i64))[j]? = some v → w.cell? (ad.add j) = some v := by
   by_cases h0 : 0 < xs.length
   ·obtain ⟨ad', e, hs⟩ := h.src h0
    cases e; exact hs
   ·have : xs = [] := by cases xs <;> simp_all
    subst this; simp
  have Hs := Lib.hid hsrc; clear hsrc h
  have hn := eqlNil w (some ad) xs.length c
  go_enter Tryz.func59, Tryz.ntmps59
  go_wp2_with (at_builtin; (refine wpList_append_own _ rfl _ _ 42 rfl w.heap.size 2 i0 (.int .i64 0) 1 8 Tryz.underlying42 Hi.out Hz0.out Hz1.out Hz2.out rfl (by decide) _ 0 [] rfl (World.ownsRow_made w #[] 0 (Nat.le_refl _) (Nat.zero_le _) rfl) ad xs.length c (xs.map (Value.int .i64)) rfl (by simp) (fun j v hj => (World.cell?_alloc_lt _ _ _ (World.block_lt_of_cell? w _ (Hs.out j v hj))).trans (Hs.out j v hj)) (oneCell_ints _ _) (by unfold maxLen; omega) (by omega) (by simp) ?_))
  intro v' w1 hown hgrow _
  have HO := Lib.hid hown; have HG := Lib.hid hgrow; clear hown hgrow
  go_wp2
  go_ret
  refine ⟨⟨_, rfl, HO.out⟩, ?_⟩
  exact ((Below.refl w.heap.size w).alloc (Nat.le_refl _) _).grown HG.out (by simp) (fun k e => by cases e; exact Nat.le_refl _)

theorem clone_n (w : World) (a : Option Addr) (n c : Nat) (xs : List Int) (hn : n = xs.length) (hm : xs.length ≤ 17592186044416) (h : IntsAt .i64 w a xs) :
  Calls Tryz.prog 59 #[.slice a n c] w fun e w' => (∃ v, e = .returned v ∧ RowI w.heap.size w' v xs) ∧ Below w.heap.size w w' := by
 subst hn; exact clone_any w a c xs hm h

def cell (s d : List Int) (k : Int) : (List Int × List Int) × Int :=
 if right s d then
  match s with
  | [] => (([], []), 62)
  | x :: r => if k < 0 ∨ x ≤ k then (([], []), 62) else ((r, (d.drop (k * (d.length / x)).toNat).take (d.length / x : Int).toNat), 0)
 else (([], []), 60)

theorem RowI.lt {B : Nat} {w : World} {v : Value} {xs : List Int} (h : RowI B w v xs) : ∀ k, v.ownBlock = some k → B ≤ k ∧ k < w.heap.size := World.ownsRow.lt h

theorem Apart.of_rows {B : Nat} {w w' : World} {v u : Value} {xs ys : List Int} (h : RowI B w v xs) (h2 : RowI w.heap.size w' u ys) : Apart v u := by
 unfold Apart
 cases hv : v.ownBlock with
 | none => exact .inl rfl
 | some k => exact .inr fun e => by have := (h.lt k hv).2; have := (h2.lt k e.symm).1; omega
theorem Apart.symm {v u : Value} (h : Apart v u) : Apart u v := by
 unfold Apart at *
 rcases h with h | h
 ·cases hu : u.ownBlock with
  | none => exact .inl rfl
  | some k => exact .inr (by rw [h]; simp)
 ·exact .inr (Ne.symm h)

theorem grownBy_setCellA (W : World) (p : Addr) (u : Value) : W.grownBy (W.setCell p u) (some p.block) :=
 ⟨rfl, rfl, rfl, by simp [World.setCell], fun k _ hk => Below.heap_setCell W p u k (fun e => hk (by rw [e]))⟩
theorem RowI.setCell_lt {B : Nat} {w : World} {v : Value} {xs : List Int} (h : RowI B w v xs) {p : Addr} (hp : p.block < B) (u : Value) : RowI B (w.setCell p u) v xs :=
 h.kept (grownBy_setCellA w p u) (by
  cases hv : v.ownBlock with
  | none => exact .inl rfl
  | some k => exact .inr fun e => by have := (h.lt k hv).1; cases e; omega)
end Go.Proofs.YtokghjnkfabgiaaGreatDoor

-- DROPS
namespace Go.Proofs.YtokghjnkfabgiaaGreatDoor
open Go.RowKit

theorem right_good {s d : List Int} (h : right s d = true) : size s = ((d.length : Int), 0) ∧ Good s d.length := by
 unfold right at h
 simp only [Bool.and_eq_true, beq_iff_eq] at h
 have e : size s = ((d.length : Int), 0) := by rw [← h.1, ← h.2]
 exact ⟨e, size_good e⟩

end Go.Proofs.YtokghjnkfabgiaaGreatDoor

-- DROPS
namespace Go.Proofs.YtokghjnkfabgiaaGreatDoor
open Go.RowKit

def RowR (B : Nat) (w : World) (v : Value) (xss : List (List Int)) : Prop :=
 ∃ vs : List Value, w.ownsRow B 42 1 v xss.length vs ∧ ∀ i, (h : i < xss.length) → ∃ u, vs[i]? = some u ∧ RowI B w u xss[i] ∧ ∀ j u', i < j → vs[j]? = some u' → Apart u u'
theorem RowR.nil (B : Nat) (w : World) : RowR B w (.slice none 0 0) [] := ⟨[], World.ownsRow_nil w B 42 1, fun i h => absurd h (Nat.not_lt_zero i)⟩

theorem outer_ne {B B' : Nat} {w : World} {v u : Value} {n : Nat} {vs : List Value} {ys : List Int} (h : w.ownsRow B 42 1 v n vs) (h2 : RowI B' w u ys) : u.ownBlock = none ∨ u.ownBlock ≠ v.ownBlock := by
 obtain ⟨_, ⟨rfl, _⟩ | ⟨g, cap, cur, rfl, _, hg, _⟩⟩ := h
 ·cases hu : u.ownBlock with
  | none => exact .inl rfl
  | some k => exact .inr (by simp [Value.ownBlock])
 ·obtain ⟨_, ⟨rfl, _⟩ | ⟨g2, cap2, cur2, rfl, _, hg2, _⟩⟩ := h2
  ·exact .inl rfl
  ·refine .inr fun e => ?_
   simp [Value.ownBlock] at e
   subst e
   rw [hg] at hg2
   simp at hg2

theorem RowR.below {B : Nat} {w w' : World} {v : Value} {xss : List (List Int)} (h : RowR B w v xss) (hb : Below w.heap.size w w') : RowR B w' v xss := by
 obtain ⟨vs, hown, hin⟩ := h
 refine ⟨vs, World.ownsRow.kept hown (grownBy_of_below hb) (by cases v.ownBlock <;> simp), fun i hi => ?_⟩
 obtain ⟨u, h1, h2, h3⟩ := hin i hi
 exact ⟨u, h1, h2.below hb, h3⟩

theorem RowR.push {B : Nat} {w1 w2 : World} {v v' u : Value} {vs : List Value} {xss : List (List Int)} {ys : List Int} (hown : w1.ownsRow B 42 1 v xss.length vs)
  (hin : ∀ i, (h : i < xss.length) → ∃ u, vs[i]? = some u ∧ RowI B w1 u xss[i] ∧ ∀ j u', i < j → vs[j]? = some u' → Apart u u')
  (hu : RowI B w1 u ys) (hap : ∀ (i : Nat) (x : Value), vs[i]? = some x → Apart x u) (hown2 : w2.ownsRow B 42 1 v' (xss.length + 1) (vs ++ [u])) (hg : w1.grownBy w2 v.ownBlock) : RowR B w2 v' (xss ++ [ys]) := by
 have hl : vs.length = xss.length := by have := hown.1; omega
 refine ⟨vs ++ [u], by simpa using hown2, fun i hi => ?_⟩
 by_cases h : i < xss.length
 ·obtain ⟨x, h1, h2, h3⟩ := hin i h
  refine ⟨x, by rw [List.getElem?_append_left (by omega)]; exact h1, ?_, fun j u' hj hu' => ?_⟩
  ·rw [List.getElem_append_left h]
   exact h2.kept hg (outer_ne hown h2)
  ·by_cases hj2 : j < vs.length
   ·rw [List.getElem?_append_left hj2] at hu'; exact h3 j u' hj hu'
   ·rw [List.getElem?_append_right (by omega)] at hu'
    have : j - vs.length = 0 := by
     by_cases hz : j - vs.length = 0
     ·exact hz
     ·rw [List.getElem?_eq_none (by simp; omega)] at hu'; cases hu'
    rw [this] at hu'
    cases hu'
    exact hap i x h1
 ·simp at hi
  have hi' : i = xss.length := by omega
  subst hi'
  refine ⟨u, by rw [← hl]; simp, ?_, fun j u' hj hu' => ?_⟩
  ·simp
   exact hu.kept hg (outer_ne hown hu)
  ·rw [List.getElem?_eq_none (by simp; omega)] at hu'; cases hu'

theorem RowR.mono {B B' : Nat} {w : World} {v : Value} {xss : List (List Int)} (h : RowR B w v xss) (hB : B' ≤ B) : RowR B' w v xss := by
 obtain ⟨vs, ⟨h1, h2⟩, hin⟩ := h
 refine ⟨vs, ⟨h1, ?_⟩, fun i hi => ?_⟩
 ·rcases h2 with h2 | ⟨g, cap, cur, hv, hb, r⟩
  ·exact .inl h2
  ·exact .inr ⟨g, cap, cur, hv, Nat.le_trans hB hb, r⟩
 ·obtain ⟨u, a, b, c⟩ := hin i hi
  exact ⟨u, a, b.mono hB, c⟩

def chunks (m : Nat) (xs : List Int) (k : Nat) : List (List Int) := (List.range k).map fun i => (xs.drop (i * m)).take m
theorem chunks_succ (m : Nat) (xs : List Int) (k : Nat) : chunks m xs (k + 1) = chunks m xs k ++ [(xs.drop (k * m)).take m] := by simp [chunks, List.range_succ]
theorem chunks_len (m : Nat) (xs : List Int) (k : Nat) : (chunks m xs k).length = k := by simp [chunks]
def lastOf (s : List Int) : Int := s.getLast?.getD 1
def lanes (s d : List Int) : List (List Int) × Int := if right s d then (chunks (lastOf s).toNat d (d.length / (lastOf s).toNat), 0) else ([], 60)
def RetRows (B : Nat) (r : List (List Int) × Int) (e : Ending) (w' : World) : Prop := ∃ v, e = .returned (.tuple #[v, .int .i64 r.2]) ∧ RowR B w' v r.1
theorem Tryz.infoR : (Tryz.prog.info? 42).map (fun i => (i.zero, i.size, i.bytes)) = some (some (.slice none 0 0), 1, 24) := by kernel_rfl
theorem prodL_last {s : List Int} (h : s ≠ []) : prodL s = prodL s.dropLast * lastOf s := by
 have e := List.dropLast_concat_getLast h
 have hl : lastOf s = s.getLast h := by unfold lastOf; rw [List.getLast?_eq_some_getLast h]; rfl
 conv => lhs; rw [← e]
 rw [prodL_append, hl]
 simp [prodL]
theorem lanes_facts {s d : List Int} (h : right s d = true) (h0 : 0 < d.length) : ∃ m q : Nat, lastOf s = m ∧ 1 ≤ m ∧ m ≤ 65536 ∧ q * m = d.length := by
 obtain ⟨_, g⟩ := right_good h
 by_cases hs : s = []
 ·subst hs
  exact ⟨1, d.length, rfl, by omega, by omega, by omega⟩
 ·have hl : lastOf s ∈ s := by unfold lastOf; rw [List.getLast?_eq_some_getLast hs]; exact List.getLast_mem hs
  have hb := g.side _ hl
  have hp := g.prod
  rw [prodL_last hs] at hp
  obtain ⟨m, hm⟩ := Int.eq_ofNat_of_zero_le hb.1
  rw [hm] at hp hb
  have hm1 : m ≠ 0 := by rintro rfl; rw [Int.natCast_zero, Int.mul_zero] at hp; omega
  have hq0 : 0 ≤ prodL s.dropLast := (prodL_le_pow (l := s.dropLast) (fun x hx => g.side x (List.dropLast_subset _ hx))).1
  obtain ⟨q, hq⟩ := Int.eq_ofNat_of_zero_le hq0
  rw [hq] at hp
  exact ⟨m, q, hm, by omega, by omega, by exact_mod_cast hp.symm⟩
end Go.Proofs.YtokghjnkfabgiaaGreatDoor

-- DROPS
namespace Go.Proofs.YtokghjnkfabgiaaGreatDoor
open Go.RowKit

theorem lit_cell (W : World) (t : TypeId) (x : Value) (j : Nat) (v : Value) (h : [x][j]? = some v) : (W.alloc (.cells #[x] t)).cell? ((⟨W.heap.size, 0, none⟩ : Addr).add j) = some v := by
 cases j with
 | zero =>
  cases h
  have e : (⟨W.heap.size, 0, none⟩ : Addr).add 0 = ⟨W.heap.size, 0, none⟩ := by simp [Addr.add]
  rw [e, cell_of_row _ W.heap.size 0 _ t (0, 0) (World.alloc_heap_new W _)]
  rfl
 | succ j => simp at h

end Go.Proofs.YtokghjnkfabgiaaGreatDoor

-- DROPS
namespace Go.Proofs.YtokghjnkfabgiaaGreatDoor
open Go.RowKit

def part (d : List Int) (a P i : Nat) : List Int := ((d.take i).drop a).take P
end Go.Proofs.YtokghjnkfabgiaaGreatDoor

-- DROPS
namespace Go.Proofs.YtokghjnkfabgiaaGreatDoor
open Go.RowKit
attribute [local go_sem] Oper.semAt_some

def chunkEnc (b off m q : Nat) (i : Fin q) : Array Value := #[.slice (some ⟨b, off + i.1 * m, none⟩) m m]

def Keep2 (n₀ Bs Bn : Nat) (W W' : World) : Prop := Below n₀ W W' ∧ W'.heap[Bs]? = W.heap[Bs]? ∧ W'.heap[Bn]? = W.heap[Bn]?
theorem keep2_t {n₀ Bs Bn : Nat} {A B C : World} (h : Keep2 n₀ Bs Bn A B) (k : Keep2 n₀ Bs Bn B C) : Keep2 n₀ Bs Bn A C := ⟨h.1.trans k.1, k.2.1.trans h.2.1, k.2.2.trans h.2.2⟩
theorem keep2_b {n₀ Bs Bn : Nat} {w : World} (hn : n₀ ≤ w.heap.size) (hb : Bs < w.heap.size) (hb' : Bn < w.heap.size) (W : World) (l : Nat) (o o' : Obj) (hl : w.heap.size ≤ l) (h : W.heap[l]? = some o) (hc : o.isCells = false) (hw : o.isWalk = false) : Keep2 n₀ Bs Bn W (W.putObj l o') :=
 ⟨belowK_b hn W l o o' hl h hc hw, (grownBy_putObj' W l o').block Bs (Nat.lt_of_lt_of_le hb (Nat.le_of_lt (Nat.lt_of_le_of_lt hl (Array.getElem?_eq_some_iff.1 h).1))) (fun e => by cases e; omega),
  (grownBy_putObj' W l o').block Bn (Nat.lt_of_lt_of_le hb' (Nat.le_of_lt (Nat.lt_of_le_of_lt hl (Array.getElem?_eq_some_iff.1 h).1))) (fun e => by cases e; omega)⟩

theorem slice_lhm (w : World) (b off len cap l m : Nat) (hl : l + m ≤ cap) (hm : 0 < m) :
  (Instr.sliceAt 42 (.slice (some ⟨b, off, none⟩) len cap) (some (.int .i64 (l : Int))) (some (.int .i64 ((l : Int) + (m : Int)))) (some (.int .i64 ((l : Int) + (m : Int))))).run Tryz.prog w = .ok (.slice (some ⟨b, off + l, none⟩) m m) w := by
 rw [run_sliceAt_slice w 42 _ _ _ _ Tryz.underlying42, run_slice_lhm w 42 (some ⟨b, off, none⟩) len cap Tryz.underlying42 .i64 .i64 .i64 (l : Int) ((l : Int) + (m : Int)) ((l : Int) + (m : Int)) (by omega) (by omega) (by omega) (by omega), sized2]
 simp only [Result.andThen, sliced_subA]
 have e1 : ((l : Int)).toNat = l := rfl
 have e2 : ((l : Int) + (m : Int)).toNat = l + m := by omega
 rw [e1, e2]
 have e3 : subA (some ⟨b, off, none⟩) (l + m) l = some ⟨b, off + l, none⟩ := by
  unfold subA
  rw [if_neg (by omega)]
  simp only [Option.map_some, Addr.add]
  split <;> simp_all
 rw [e3]
 simp

set_option maxRecDepth 100000 in
set_option maxHeartbeats 2000000 in
theorem chunk1_in (l Bs Bn n₀ b off len cap m q : Nat) (hq : q * m = len) (hcap : len ≤ cap) (hm : 1 ≤ m) (hm2 : len ≤ 65536) (hm3 : m ≤ 65536) (J Jx : List (Fin q) → World → Prop) (hJd : ∀ pre W, J pre W → J pre W.drew)
  (hY : ∀ pre x W, J pre W → pre.length < q → YieldAt Fence.wide 7 Tryz.prog l (chunkEnc b off m q x) W fun e W' =>
   (e = .returned (.bool true) ∧ J (pre ++ [x]) W' ∧ Keep2 n₀ Bs Bn W W') ∨ (e = .returned (.bool false) ∧ Jx (pre ++ [x]) W'))
  (W : World) (hBs : Boxed W Bs 42 (.slice (some ⟨b, off, none⟩) len cap)) (hBn : Boxed W Bn 3 (.int .i64 (m : Int))) (h0 : J [] W) :
  CallsIn Fence.wide 8 Tryz.prog 169 #[.func (.yield l) #[] #[], .pointer (some ⟨Bs, 0, none⟩), .pointer (some ⟨Bn, 0, none⟩)] W fun e W' => (∃ v, e = .returned v) ∧
   ((∃ ys, ys = List.finRange q ∧ J ys W') ∨ (∃ pre, pre <+: List.finRange q ∧ Jx pre W')) := by
 refine callsIn_of_wp Tryz.func169 rfl trivial ?_ rfl
 simp only [Tryz.ntmps169, List.size_toArray, List.length_cons, List.length_nil, Nat.reduceAdd, Nat.reduceSub, Array.replicate_succ, Array.replicate_zero, List.push_toArray, List.append_toArray, List.nil_append, List.cons_append]
 have Hq := Lib.hid hq; clear hq
 gi_wp2
 gi_loopw [4] (fun i wr => ∃ (k j : Nat), k ≤ q ∧ j = k * m ∧ i = .int .i64 (j : Int) ∧ J ((List.finRange q).take k) wr ∧ Keep2 n₀ Bs Bn W wr)
  (fun i _ => len - (intOf i).toNat)
 case atStart => exact ⟨0, 0, Nat.zero_le _, by omega, rfl, by simpa using h0, Below.refl _ _, rfl, rfl⟩
 case round =>
  obtain ⟨k, j, hk, hj, rfl, hJs, hnx⟩ := hrel
  have hbs : wr.cell? ⟨Bs, 0, none⟩ = some (.slice (some ⟨b, off, none⟩) len cap) := Boxed.cell (hnx.2.1.trans hBs)
  have hbn : wr.cell? ⟨Bn, 0, none⟩ = some (.int .i64 (m : Int)) := Boxed.cell (hnx.2.2.trans hBn)
  have Hj := Lib.hid hj; clear hj
  by_cases hlt : k < q
  ·have hjm : j + m ≤ len := by
    have h1 : (k + 1) * m ≤ q * m := Nat.mul_le_mul_right m hlt
    rw [Hq.out, Nat.succ_mul, ← Hj.out] at h1
    exact h1
   have htk : (List.finRange q).take k ++ [⟨k, hlt⟩] = (List.finRange q).take (k + 1) := by
    rw [List.take_succ_eq_append_getElem (by simp; omega)]
    congr 2
    apply Fin.ext
    simp
   obtain ⟨fn, tmps, assign, body, hy, hR⟩ := hY _ ⟨k, hlt⟩ wr.drew (hJd _ _ hJs) (by simp; omega)
   rw [htk] at hR
   have HR := Lib.hid hR; clear hR hJs htk
   simp only [chunkEnc] at hy
   rw [← Hj.out] at hy
   obtain ⟨lx, hlx⟩ : ∃ lx, len - j = lx := ⟨_, rfl⟩
   have hmlx : m ≤ lx := by omega
   obtain ⟨cx, hcx⟩ : ∃ cx, cap - j = cx := ⟨_, rfl⟩
   obtain ⟨ax, hax⟩ : ∃ ax, subA (some ⟨b, off, none⟩) cap j = ax := ⟨_, rfl⟩
   have hsl : ∀ W : World, (Instr.sliceAt 42 (.slice (some ⟨b, off, none⟩) len cap) (some (.int .i64 (j : Int))) none none).run Tryz.prog W = .ok (.slice ax lx cx) W := fun W => by
    rw [slice_lo W _ len cap .i64 j (by omega) (by omega), show ((j : Int)).toNat = j from rfl, hlx, hcx, hax]
   have hsl2 := fun W => slice_lhm W b off len cap j m (by omega) (by omega)
   have hjl : (j : Int) < (len : Int) := by
    have : j < len := by omega
    omega
   have hnlt : ¬ (lx : Int) < (m : Int) := by omega
   have e1 : IntKind.i64.wrap ((j : Int) + (m : Int)) = (j : Int) + (m : Int) := IntWalk.i64_in _ (by omega)
   have Hlx := Lib.hid hlx; clear hlx hcx hax
   have Hjm := Lib.hid hjm; clear hjm
   gi_wp2
   gi_region
   clear hsl hnlt
   gi_wp2
   refine HR.out.mono ?_
   rintro e W3 (⟨rfl, hJ3, hk3⟩ | ⟨rfl, hJx3⟩)
   ·have hbn3 : W3.cell? ⟨Bn, 0, none⟩ = some (.int .i64 (m : Int)) := Boxed.cell (hk3.2.2.trans (hnx.2.2.trans hBn))
    have HJ3 := Lib.hid hJ3; clear hJ3 hsl2 hy hbs hbn hjl
    gi_wp2
    go_roundw
    case rel => exact ⟨k + 1, j + m, by omega, by rw [Nat.succ_mul, ← Hj.out], by go_num, HJ3.out, keep2_t hnx ⟨(Below.refl _ _).drew.trans hk3.1, hk3.2.1, hk3.2.2⟩⟩
    case measure => simp [intOf]; have := Hjm.out; omega
   ·gi_wp2
    refine bodyPost_ret (results_none rfl _ _ _) rfl ?_
    exact ⟨⟨_, rfl⟩, .inr ⟨_, List.take_prefix _ _, hJx3⟩⟩
  ·have hkq : k = q := by omega
   have hjl : ¬ ((j : Int) < (len : Int)) := by
    have := Hj.out; rw [hkq, Hq.out] at this; omega
   have hJ2 : J (List.finRange q) wr := by rw [hkq, List.take_of_length_le (by simp)] at hJs; exact hJs
   have HJ := Lib.hid hJ2; clear hJ2 hJs hkq
   gi_wp2
   go_end0
   exact ⟨⟨_, rfl⟩, .inl HJ.out⟩

set_option maxHeartbeats 1000000 in
theorem chunk_any (a : Option Addr) (len cap : Nat) (m : Int) (w : World) (hm : 1 ≤ m) :
  Calls Tryz.prog 155 #[.slice a len cap, .int .i64 m] w fun e w' => e = .returned (.func (.func 169) #[] #[.pointer (some ⟨w.heap.size, 0, none⟩), .pointer (some ⟨w.heap.size + 1, 0, none⟩)]) ∧
   w' = (w.alloc (.cells #[.slice a len cap] 42)).alloc (.cells #[.int .i64 m] 3) := by
 have h1 : ¬ (m < 1) := by omega
 go_enter Tryz.func155, Tryz.ntmps155
 go_wp2
 go_ret
 exact ⟨rfl, rfl⟩

theorem chunk_stops (Bs Bn n₀ b off len cap m q : Nat) (hq : q * m = len) (hcap : len ≤ cap) (hm : 1 ≤ m) (hm2 : len ≤ 65536) (hm3 : m ≤ 65536) (w : World) (mv : Int) (hmv : mv = (m : Int))
  (hc : Boxed w Bs 42 (.slice (some ⟨b, off, none⟩) len cap)) (hn : Boxed w Bn 3 (.int .i64 mv)) :
  SeqStopsK Fence.wide 8 Tryz.prog 169 #[.pointer (some ⟨Bs, 0, none⟩), .pointer (some ⟨Bn, 0, none⟩)] (chunkEnc b off m q) (Keep2 n₀ Bs Bn) (fun ys => ys = List.finRange q)
   (fun pre => pre <+: List.finRange q) q w := fun l J Jx W hW hJ _ hY h0 => by
 subst hmv
 exact chunk1_in l Bs Bn n₀ b off len cap m q hq hcap hm hm2 hm3 J Jx (fun pre W h => hJ pre W W.drew none h ⟨rfl, rfl, rfl, Nat.le_refl _, fun _ _ _ => rfl⟩ (fun r e => by cases e)) hY W ((hW.block Bs hc.lt).trans hc) ((hW.block Bn hn.lt).trans hn) h0
end Go.Proofs.YtokghjnkfabgiaaGreatDoor

-- DROPS
namespace Go.Proofs.YtokghjnkfabgiaaGreatDoor
open Go.RowKit
attribute [local go_sem] Oper.semAt_some

set_option maxRecDepth 100000 in
set_option maxHeartbeats 4000000 in
theorem lanes_bad (w : World) (a0 a1 : Option Addr) (c0 c1 : Nat) (s d : List Int) (hs : s.length ≤ maxLen) (h0 : IntsAt .i64 w a0 s) (hr : right s d = false ∨ d = []) :
  Calls Tryz.prog 129 #[.agg #[.slice a0 s.length c0, .slice a1 d.length c1]] w fun e w' => RetRows w.heap.size (lanes s d) e w' ∧ Below w.heap.size w w' := by
 have hq := fun o => right_any (w.alloc o) a0 a1 c0 c1 s d hs (h0.below ((Below.refl _ _).alloc (Nat.le_refl _) _) (Nat.le_refl _))
 cases hr2 : right s d with
 | false =>
  rw [hr2] at hq
  have hl : lanes s d = ([], 60) := by unfold lanes; rw [if_neg (by rw [hr2]; simp)]
  have Hq := Lib.hid hq; have Hl := Lib.hid hl; clear hq hl hr hr2 h0 hs
  refine calls_marks Tryz.func129 rfl ?_
  simp only [Tryz.ntmps129, List.size_toArray, List.length_cons, List.length_nil, Nat.reduceAdd, Nat.reduceSub, Array.replicate_succ, Array.replicate_zero, List.push_toArray, List.append_toArray, List.nil_append, List.cons_append]
  go_wp2_with fail
  refine (Hq.out _).mono ?_
  rintro e w1 ⟨rfl, hb1⟩
  go_wp2_with fail
  refine bodyPostM_ret (results_tmp2 rfl _ _ _) rfl ⟨?_, ?_⟩
  ·rw [Hl.out]; exact ⟨_, rfl, RowR.nil _ _⟩
  ·exact bAfter ((Below.refl _ _).alloc (Nat.le_refl _) _) (by simp) hb1
 | true =>
  obtain rfl : d = [] := by rcases hr with h | h; rw [hr2] at h; cases h; exact h
  rw [hr2] at hq
  have hl : lanes s [] = ([], 0) := by unfold lanes; rw [if_pos hr2]; simp [chunks]
  have Hq := Lib.hid hq; have Hl := Lib.hid hl; clear hq hl hr hr2 h0 hs
  refine calls_marks Tryz.func129 rfl ?_
  simp only [Tryz.ntmps129, List.size_toArray, List.length_cons, List.length_nil, Nat.reduceAdd, Nat.reduceSub, Array.replicate_succ, Array.replicate_zero, List.push_toArray, List.append_toArray, List.nil_append, List.cons_append]
  go_wp2_with fail
  refine (Hq.out _).mono ?_
  rintro e w1 ⟨rfl, hb1⟩
  obtain ⟨hcc, hff⟩ := bcell hb1
  have hS1 : w1.cell? ⟨w.heap.size, 1, none⟩ = some (.slice a1 0 c1) := by rw [hcc _ _ (by simp)]; simp [go_sem]
  clear hcc hff
  go_wp2_with fail
  refine bodyPostM_ret (results_tmp2 rfl _ _ _) rfl ⟨?_, ?_⟩
  ·rw [Hl.out]; exact ⟨_, rfl, RowR.nil _ _⟩
  ·exact bAfter ((Below.refl _ _).alloc (Nat.le_refl _) _) (by simp) hb1

theorem ownBlock_cells {B n : Nat} {W : World} {t : TypeId} {v : Value} {vs : List Value} (h : W.ownsRow B t 1 v n vs) {row : Option Nat} (hrow : ∀ r, row = some r → ∃ o : Obj, W.heap[r]? = some o ∧ o.isCells = false) : v.ownBlock = none ∨ v.ownBlock ≠ row := by
 obtain ⟨_, ⟨rfl, _⟩ | ⟨g, cap, cur, rfl, _, hg, _⟩⟩ := h
 ·exact .inl rfl
 ·exact .inr fun e => not_row hg hrow (by simpa [Value.ownBlock] using e)
theorem RowR.keptNC {B : Nat} {W W' : World} {v : Value} {xss : List (List Int)} (h : RowR B W v xss) {row : Option Nat} (hg : W.grownBy W' row) (hrow : ∀ r, row = some r → ∃ o : Obj, W.heap[r]? = some o ∧ o.isCells = false) : RowR B W' v xss := by
 obtain ⟨vs, h1, h2⟩ := h
 refine ⟨vs, World.ownsRow.kept h1 hg (ownBlock_cells h1 hrow), fun i hi => ?_⟩
 obtain ⟨u, a, b, c⟩ := h2 i hi
 exact ⟨u, a, b.kept hg (ownBlock_cells b hrow), c⟩
theorem RowR.setCell_lt {B : Nat} {w : World} {v : Value} {xss : List (List Int)} (h : RowR B w v xss) {p : Addr} (hp : p.block < B) (u : Value) : RowR B (w.setCell p u) v xss := by
 obtain ⟨vs, h1, h2⟩ := h
 refine ⟨vs, World.ownsRow.kept h1 (grownBy_setCellA w p u) ?_, fun i hi => ?_⟩
 ·cases hv : v.ownBlock with
  | none => exact .inl rfl
  | some k => exact .inr fun e => by have := (World.ownsRow.lt h1 k hv).1; cases e; omega
 ·obtain ⟨x, a, b, c⟩ := h2 i hi
  exact ⟨x, a, b.setCell_lt hp u, c⟩
theorem ownsRow_slice {B n : Nat} {W : World} {t : TypeId} {v : Value} {vs : List Value} (h : W.ownsRow B t 1 v n vs) : ∃ a cap, v = .slice a n cap := by
 obtain ⟨_, ⟨rfl, h0⟩ | ⟨g, cap, cur, rfl, _⟩⟩ := h
 ·rw [h0]; exact ⟨_, _, rfl⟩
 ·exact ⟨_, _, rfl⟩
theorem IntsAt.at {k : IntKind} {w : World} {b off : Nat} {xs : List Int} (h : IntsAt k w (some ⟨b, off, none⟩) xs) (l n : Nat) : IntsAt k w (some ⟨b, off + l, none⟩) ((xs.drop l).take n) := by
 intro i hi
 rw [List.length_take, List.length_drop] at hi
 obtain ⟨b', off', e, hc⟩ := h (l + i) (by omega)
 cases e
 refine ⟨b, off + l, rfl, ?_⟩
 rw [List.getElem_take, List.getElem_drop, Nat.add_assoc]; exact hc

def LanesInv (w : World) (d : List Int) (m E B q : Nat) (pre : List (Fin q)) (W : World) : Prop :=
 ∃ v xss, Boxed W E 207 v ∧ RowR B W v xss ∧ xss.length = pre.length ∧ (pre <+: List.finRange q → xss = chunks m d pre.length) ∧ Below w.heap.size w W ∧ B ≤ W.heap.size
theorem LanesInv.own (w : World) (d : List Int) (m E B q K : Nat) (hK : w.heap.size ≤ K) : OwnFrom K (LanesInv w d m E B q) := by
 rintro pre W W' row ⟨v, xss, bE, hx, hxl, hr, hb, hsz⟩ hg hrow
 have hn := fun r e => (hrow r e).2
 exact ⟨v, xss, bE.kept hg (not_row bE hn), hx.keptNC hg hn, hxl, hr, hb.grown hg hb.size (fun k e => Nat.le_trans hK (hrow k e).1), Nat.le_trans hsz hg.size⟩
theorem fin_prefix {n : Nat} {pre : List (Fin n)} {x : Fin n} (h : pre ++ [x] <+: List.finRange n) : pre <+: List.finRange n ∧ x.1 = pre.length := by
 refine ⟨(List.prefix_append _ _).trans h, ?_⟩
 have h1 := h.getElem (i := pre.length) (by simp)
 simp at h1
 rw [h1]

set_option maxRecDepth 100000 in
set_option maxHeartbeats 4000000 in
theorem lanes_good (w : World) (a0 : Option Addr) (b1 off1 : Nat) (c0 c1 ls ld : Nat) (s d : List Int) (m q : Nat) (hls : ls = s.length) (hld : ld = d.length) (hs : ls ≤ 4) (hd0 : 0 < ld) (hd : ld ≤ 65536) (hc1 : ld ≤ c1) (h0 : IntsAt .i64 w a0 s) (h1 : IntsAt .i64 w (some ⟨b1, off1, none⟩) d) (hr : right s d = true)
  (hlast : lastOf s = m) (hm1 : 1 ≤ m) (hm2 : m ≤ 65536) (hq : q * m = ld) :
  Calls Tryz.prog 129 #[.agg #[.slice a0 ls c0, .slice (some ⟨b1, off1, none⟩) ld c1]] w fun e w' => RetRows w.heap.size (chunks m d q, 0) e w' ∧ Below w.heap.size w w' := by
 have hbb : ∀ o, Below w.heap.size w (w.alloc o) := fun o => (Below.refl _ _).alloc (Nat.le_refl _) _
 have hqr := fun o => right_any (w.alloc o) a0 (some ⟨b1, off1, none⟩) c0 c1 s d (by rw [← hls]; unfold maxLen; omega) (h0.below (hbb o) (Nat.le_refl _))
 rw [hr, ← hls, ← hld] at hqr
 have Hqr := Lib.hid hqr; have H0 := Lib.hid h0; have H1 := Lib.hid h1; have Hq := Lib.hid hq; have Hld := Lib.hid hld; have Hb := Lib.hid hbb
 clear hqr hr hq hbb hld
 rcases Nat.eq_zero_or_pos ls with hz | hz
 ·have hsn : s = [] := List.eq_nil_of_length_eq_zero (by omega)
  have hm : m = 1 := by
   have h : lastOf [] = 1 := rfl
   rw [hsn, h] at hlast
   omega
  subst hz
  have hmv : (1 : Int) = (m : Int) := by rw [hm]; rfl
  have Hmv := Lib.hid hmv; clear hmv hm
  clear h0 h1 hlast hls hsn
  refine calls_marks Tryz.func129 rfl ?_
  simp only [Tryz.ntmps129, List.size_toArray, List.length_cons, List.length_nil, Nat.reduceAdd, Nat.reduceSub, Array.replicate_succ, Array.replicate_zero, List.push_toArray, List.append_toArray, List.nil_append, List.cons_append]
  go_wp2_with fail
  refine (Hqr.out _).mono ?_
  rintro e w1 ⟨rfl, hb1⟩
  obtain ⟨hcc, hff⟩ := bcell hb1
  have hz1 : w.heap.size < w1.heap.size := by have := hb1.size; simp at this; omega
  have hB1 : Below w.heap.size w w1 := (Hb.out _).trans (hb1.mono (by simp))
  have hS0 : w1.cell? ⟨w.heap.size, 0, none⟩ = some (.slice a0 0 c0) := by rw [hcc _ _ (by simp)]; simp [go_sem]
  have hS1 : w1.cell? ⟨w.heap.size, 1, none⟩ = some (.slice (some ⟨b1, off1, none⟩) ld c1) := by rw [hcc _ _ (by simp)]; simp [go_sem]
  have hS1a : ∀ o, (w1.alloc o).cell? ⟨w.heap.size, 1, none⟩ = some (.slice (some ⟨b1, off1, none⟩) ld c1) := fun o => (World.cell?_alloc_lt _ _ _ (by show w.heap.size < _; omega)).trans hS1
  clear hcc hff hb1
  go_wp2_with fail
  refine (chunk_any (some ⟨b1, off1, none⟩) ld c1 1 _ (by decide)).mono ?_
  rintro e w2 ⟨rfl, hw2⟩
  have hB2 : Below w.heap.size w w2 := by rw [hw2]; exact ((hB1.alloc hB1.size _).alloc (by have := hB1.size; simp; omega) _).alloc (by have := hB1.size; simp; omega) _
  have bE : Boxed w2 w1.heap.size 207 (.slice none 0 0) := by rw [hw2]; exact ((Boxed.new w1 207 (.slice none 0 0)).alloc _).alloc _
  have bS : Boxed w2 (w1.heap.size + 1) 42 (.slice (some ⟨b1, off1, none⟩) ld c1) := by
   rw [hw2]
   have := Boxed.new (w1.alloc (.cells #[.slice none 0 0] 207)) 42 (.slice (some ⟨b1, off1, none⟩) ld c1)
   rw [World.size_alloc] at this
   exact this.alloc _
  have bN : Boxed w2 (w1.heap.size + 1 + 1) 3 (.int .i64 1) := by
   rw [hw2]
   have := Boxed.new ((w1.alloc (.cells #[.slice none 0 0] 207)).alloc (.cells #[.slice (some ⟨b1, off1, none⟩) ld c1] 42)) 3 (.int .i64 1)
   simp only [World.size_alloc] at this
   exact this
  have hsz2 : w2.heap.size = w1.heap.size + 3 := by rw [hw2]; simp
  clear hw2 hS0 hS1 hS1a
  have Hsz2 := Lib.hid hsz2; clear hsz2
  go_wp2_with fail
  refine wpIn_wide.1 (wpIn_rangeFunc_ownG (n := 9) rfl (by omega) (gf := 169) (lb := #[.pointer (some ⟨w1.heap.size + 1, 0, none⟩), .pointer (some ⟨w1.heap.size + 1 + 1, 0, none⟩)]) rfl trivial (fun args w => callFunc_enter Tryz.func169 (by kernel_rfl) rfl args w)
   (chunk_stops (w1.heap.size + 1) (w1.heap.size + 1 + 1) w.heap.size b1 off1 ld c1 m q Hq.out hc1 (by omega) (by omega) (by omega) _ 1 Hmv.out bS bN) keep2_t (keep2_b hB2.size bS.lt bN.lt) (Below.refl _ _) (fun _ => rfl)
   (LanesInv w d m w1.heap.size (w1.heap.size + 3) q) (fun _ _ _ => False) ?own (fun _ _ _ _ _ hs _ _ => hs) ?start
   (fun x => { tmps := #[Value.agg #[Value.slice a0 0 c0, Value.slice (some { block := b1, off := off1 }) ld c1], Value.pointer (some { block := w.heap.size, off := 0 }), Value.slice none 0 0, Value.int IntKind.i64 0, Value.int IntKind.i64 1, Value.int IntKind.i64 0,
    Value.pointer (some { block := w1.heap.size, off := 0 }), Value.slice (some ⟨b1, off1 + x.1 * m, none⟩) m m, Value.agg #[Value.slice a0 0 c0, Value.slice (some { block := b1, off := off1 }) ld c1], Value.bool true, Value.bool false, Value.pointer (some { block := w.heap.size, off := 1 }),
    Value.slice (some { block := b1, off := off1 }) ld c1, Value.int IntKind.i64 ↑ld, Value.bool false, Value.pointer (some { block := w.heap.size, off := 0 }), Value.slice a0 0 c0, Value.int IntKind.i64 0, Value.int IntKind.i64 0, Value.bool false,
    undef, undef, undef, undef, undef, undef, Value.pointer (some { block := w.heap.size, off := 1 }), Value.slice (some { block := b1, off := off1 }) ld c1, Value.int IntKind.i64 1,
    Value.func (Fn.func 169) #[] #[Value.pointer (some { block := w1.heap.size + 1, off := 0 }), Value.pointer (some { block := w1.heap.size + 1 + 1, off := 0 })], Value.slice (some ⟨b1, off1 + x.1 * m, none⟩) m m,
    undef, undef, undef, undef, undef, undef], defers := [] }) ?assign ?body ?done ?stop)
  case own => exact LanesInv.own _ _ _ _ _ _ _ hB2.size
  case start => exact ⟨_, [], bE, RowR.nil _ _, rfl, fun _ => rfl, hB2, by rw [Hsz2.out]; exact Nat.le_refl _⟩
  case assign =>
   intro l x W K hK
   unfold chunkEnc
   gi_wp2
   exact hK
  case body =>
   rintro l pre x W ⟨v, xss, bEW, ⟨vs, hvo, hvi⟩, hxl, hcond, hBW, hszW⟩ hpl
   have hxm : x.1 * m + m ≤ ld := by
    have h1 : (x.1 + 1) * m ≤ q * m := Nat.mul_le_mul_right m x.2
    rw [Hq.out, Nat.succ_mul] at h1
    exact h1
   have hql : q ≤ 65536 := by
    have h1 : q * 1 ≤ q * m := Nat.mul_le_mul_left q hm1
    rw [Hq.out] at h1; omega
   obtain ⟨ys, hys⟩ : ∃ ys, (d.drop (x.1 * m)).take m = ys := ⟨_, rfl⟩
   have hyl : ys.length = m := by rw [← hys, List.length_take, List.length_drop, ← Hld.out]; omega
   have hyI : ∀ W' : World, Below w.heap.size w W' → IntsAt .i64 W' (some ⟨b1, off1 + x.1 * m, none⟩) ys := fun W' hW' => by rw [← hys]; exact (H1.out.below hW' (Nat.le_refl _)).at (x.1 * m) m
   have hE0 := bEW.cell
   have hEf := bEW.frozen
   have hElt := bEW.lt
   have Hql := Lib.hid hql; have Hyl := Lib.hid hyl; have HyI := Lib.hid hyI; have Hys := Lib.hid hys; have Hvo := Lib.hid hvo; have Hvi := Lib.hid hvi; have Hxl := Lib.hid hxl; have Hcond := Lib.hid hcond; have Hxm := Lib.hid hxm
   clear hql hyl hyI hys hvo hvi hxl hcond hxm hB1 bE bS bN
   obtain ⟨ir, hir, hr0, hr1, hr2⟩ := info_parts Tryz.infoR
   have Hir := Lib.hid hir; have Hr0 := Lib.hid hr0; have Hr1 := Lib.hid hr1; have Hr2 := Lib.hid hr2; clear hir hr0 hr1 hr2
   gi_wp2
   refine wpIn_region_roundZ (S := fun W' => W'.cell? ⟨w1.heap.size, 0, none⟩ = some v) (z := 5) l 7 (by kernel_rfl) (by kernel_rfl) ?out ?_
   case out => rintro ⟨_, _, h⟩; exact h
   have hSS : (fun W' : World => W'.cell? ⟨w1.heap.size, 0, none⟩ = some v) W.drew := hE0
   refine wpAnyZ_take (i := 0) (v := ?_) rfl (by kernel_rfl) (by kernel_rfl) (by kernel_rfl) (fun _ _ _ h => h) (by kernel_rfl) (Or.inl ⟨by rfl, ?_⟩) (by assumption) ?_
   rotate_left
   ·intro w' hSw
    try dsimp only at hSw
    try obtain ⟨hSw, hSw2⟩ := hSw
    go_simp
    try with_reducible rfl
   show wpAnyZ _ _ _ _ _ _ _ _ (Act.put _ (some 31) _) _
   simp only [Act.put, List.setIfInBounds_toArray, List.set_cons_zero, List.set_cons_succ]
   refine wpAnyZ_take (i := 1) (v := ?_) rfl (by kernel_rfl) (by kernel_rfl) (by kernel_rfl) (fun _ _ _ h => h) (by kernel_rfl) (Or.inl ⟨by rfl, ?_⟩) (by assumption) ?_
   rotate_left
   ·intro w' hSw
    try dsimp only at hSw
    try obtain ⟨hSw, hSw2⟩ := hSw
    go_simp
    try with_reducible rfl
   show wpAnyZ _ _ _ _ _ _ _ _ (Act.put _ (some 32) _) _
   simp only [Act.put, List.setIfInBounds_toArray, List.set_cons_zero, List.set_cons_succ]
   refine wpAnyZ_one (i := 2) (by kernel_rfl) rfl rfl (fun K hK => ?_)
   go_simp
   have hWd : Below w.heap.size w W.drew := hBW.drew
   refine (clone_n _ _ _ _ ys Hyl.out.symm (by rw [Hyl.out]; omega) (HyI.out _ hWd)).mono ?_
   rintro e w3 ⟨⟨u, rfl, hu⟩, hb3⟩
   have hE3 : w3.cell? ⟨w1.heap.size, 0, none⟩ = some v := (hb3.cell (p := ⟨w1.heap.size, 0, none⟩) hElt).trans hE0
   show K _ w3
   refine hK.out _ _ (.inr hE3) ?_
   clear hK K hSS
   obtain ⟨au, cu, rfl, _, _⟩ := hu.slice
   have hz3 : W.heap.size ≤ w3.heap.size := hb3.size
   have hb3' : Below W.heap.size W w3 := (Below.refl _ _).drew.trans hb3
   have HU := Lib.hid hu; have Hb3 := Lib.hid hb3'; clear hu hb3 hb3' hWd
   refine wpAnyZ_one (i := 3) (by kernel_rfl) rfl rfl (fun K hK => ?_)
   go_simp
   refine hK.out _ _ (.inr ((World.cell?_alloc_lt _ _ _ (by show w1.heap.size < _; omega)).trans hE3)) ?_
   clear hK K
   refine wpAnyZ_one (i := 4) (by kernel_rfl) rfl rfl (fun K hK => ?_)
   have hb3a : ∀ o, Below W.heap.size W (w3.alloc o) := fun o => Hb3.out.alloc Hb3.out.size _
   have hvo3 : ∀ o, (w3.alloc o).ownsRow (w1.heap.size + 3) 42 1 v xss.length vs := fun o => World.ownsRow.kept Hvo.out (grownBy_of_below (hb3a o)) (by cases v.ownBlock <;> simp)
   refine wp_append_own _ _ _ 207 rfl (w1.heap.size + 3) 42 ir (.slice none 0 0) 1 24 Tryz.underlying207 Hir.out Hr0.out Hr1.out Hr2.out rfl (by decide) v _ _ rfl (hvo3 _) ⟨w3.heap.size, 0, none⟩ 1 1 [.slice au ys.length cu] rfl rfl (fun i z hz => lit_cell w3 _ _ i z hz) (by simp [Value.oneCell']) (by have := Hxl.out; have := Hql.out; unfold maxLen; omega) (by have := Hxl.out; have := Hql.out; omega) (by simp; omega) ?_
   intro v' w5 hown5 hgrow5 _
   have hlow : ∀ k, v.ownBlock = some k → w1.heap.size + 3 ≤ k := fun k e => (World.ownsRow.lt Hvo.out k e).1
   have hb35 : Below (w1.heap.size + 3) W w5 := ((Hb3.out.mono hszW).alloc (by omega) _).grown hgrow5 (by simp; omega) hlow
   have bE5 : Boxed w5 w1.heap.size 207 v := (hb35.block _ (by omega)).trans bEW
   refine hK.out _ _ (.inr bE5.cell) ?_
   clear hK K
   obtain ⟨av', cv', rfl⟩ := ownsRow_slice hown5
   have hro : RowR (w1.heap.size + 3) w5 (.slice av' (xss.length + 1) cv') (xss ++ [ys]) := by
    refine RowR.push (hvo3 _) (fun i hi => ?_) ((HU.out.mono (by simpa using hszW)).below ((Below.refl _ _).alloc (Nat.le_refl _) _)) (fun i z hz => ?_) hown5 hgrow5
    ·obtain ⟨z, e1, e2, e3⟩ := Hvi.out i hi
     exact ⟨z, e1, e2.below (hb3a _), e3⟩
    ·have hi : i < xss.length := by
      have hl := Hvo.out.1
      by_cases h : i < vs.length
      ·omega
      ·rw [List.getElem?_eq_none (by omega)] at hz; cases hz
     obtain ⟨z', e1, e2, _⟩ := Hvi.out i hi
     rw [hz] at e1
     cases e1
     exact Apart.of_rows e2 HU.out
   have hcl : ∀ (k : Nat) (o' : Obj) (o : Obj), v.ownBlock = some k → (w3.alloc o).heap[k]? = some o' → o'.isCells = true := fun k o' o e ho => by
    obtain ⟨_, ⟨e', _⟩ | ⟨g, cap, cur, e', _, hg, _⟩⟩ := hvo3 o
    ·rw [e'] at e; cases e
    ·rw [e'] at e; cases e; rw [hg] at ho; cases ho; rfl
   have hko : KeepsOthers W w5 := ((((KeepsOthers.of_grownBy (grownBy_of_below Hb3.out) (by simp))).trans (KeepsOthers.alloc w3 _)).trans (KeepsOthers.of_grownBy hgrow5 (fun k o' e ho => hcl k o' _ e ho)))
   have hF5 := bE5.frozen
   have hE5 := bE5.cell
   have Hro := Lib.hid hro; have Hko := Lib.hid hko; have Hb35 := Lib.hid hb35
   clear hro hko hb35 hown5 hgrow5 hvo3 hb3a hcl hlow hE3 hE0 hEf
   refine wpAnyZ_one (i := 5) (by kernel_rfl) rfl rfl (fun K hK => ?_)
   go_simp
   refine hK.out _ _ (.inl (by omega)) ?_
   clear hK K
   refine wpAnyZ_done (by kernel_rfl) ?_ _
   gi_wp2
   have hn0 : w.heap.size ≤ w1.heap.size + 3 := by omega
   refine ⟨((Hko.out.trans (KeepsOthers.setCell _ ⟨w1.heap.size, 0, none⟩ _))).from _, ⟨(Hb35.out.mono hn0).setCell (p := ⟨w1.heap.size, 0, none⟩) (by show w.heap.size ≤ w1.heap.size; omega) _, ?_, ?_⟩, _, xss ++ [ys], Boxed.set _ bE5, Hro.out.setCell_lt (by show w1.heap.size < _; omega) _, by simp [Hxl.out], fun hpre => ?_, hBW.trans ((Hb35.out.mono hn0).setCell (p := ⟨w1.heap.size, 0, none⟩) (by show w.heap.size ≤ w1.heap.size; omega) _), by have := Hb35.out.size; simp; omega⟩
   ·exact (Below.heap_setCell _ ⟨w1.heap.size, 0, none⟩ _ _ (by simp)).trans (Hb35.out.block _ (by omega))
   ·exact (Below.heap_setCell _ ⟨w1.heap.size, 0, none⟩ _ _ (by show w1.heap.size + 1 + 1 ≠ w1.heap.size; omega)).trans (Hb35.out.block _ (by omega))
   ·obtain ⟨hp1, hp2⟩ := fin_prefix hpre
    rw [Hcond.out hp1, List.length_append, List.length_singleton, chunks_succ, ← Hys.out, hp2]
  case done =>
   rintro D ys W hD rfl ⟨v, xss, bEW, hx, hxl, hcond, hBW, hszW⟩ hK
   have hxe := hcond (List.prefix_refl _)
   rw [List.length_finRange] at hxe
   subst hxe
   obtain ⟨vs, hvo, hvi⟩ := hx
   have hE0 := bEW.cell
   have Hvo := Lib.hid hvo; have Hvi := Lib.hid hvi; have Hcond := Lib.hid hcond; have Hxl := Lib.hid hxl; clear hvo hvi hcond hxl hB1 bE bS bN
   go_wp2
   refine ⟨by simp, .inl ⟨_, _, rfl, run_takeDeferred hK, ?_⟩⟩
   refine ⟨_, results_tmp2 rfl _ _ _, ⟨_, rfl, ?_⟩, hBW.trans (belowK_b (w := w) (Nat.le_refl _) W D _ _ (by have := hB2.size; omega) hK rfl rfl)⟩
   exact (RowR.keptNC ⟨vs, Hvo.out, Hvi.out⟩ (grownBy_putObj' W D _) (fun r e => by cases e; exact ⟨_, hK, rfl⟩)).mono (by omega)
  case stop =>
   rintro D c' pre W _ _ h _
   exact h.elim
 ·have hnil : s ≠ [] := by rintro rfl; simp at hls; omega
  obtain ⟨l1, hl1⟩ : ∃ l1, ls = l1 + 1 := ⟨ls - 1, by omega⟩
  obtain ⟨b0, off, rfl, hcl⟩ : ∃ b off, a0 = some ⟨b, off, none⟩ ∧ w.cell? ⟨b, off + l1, none⟩ = some (.int .i64 m) := by
   obtain ⟨b, off, e, h⟩ := h0 l1 (by omega)
   refine ⟨b, off, e, h.trans ?_⟩
   have : s[l1]'(by omega) = lastOf s := by
    unfold lastOf
    rw [List.getLast?_eq_getElem?, show s.length - 1 = l1 by omega, List.getElem?_eq_getElem (by omega)]
    rfl
   rw [this, hlast]
  have hb0 := World.block_lt_of_cell? w _ hcl
  have Hcl := Lib.hid hcl; clear hcl h0 h1 hnil hlast hls
  have hgt : decide ((0 : Int) < (ls : Int)) = true := by simp; omega
  have ew : IntKind.i64.wrap ((ls : Int) - 1) = (l1 : Int) := by rw [IntWalk.i64_in _ (by omega)]; omega
  have ew2 : wrap64 ((ls : Int) - 1) = (l1 : Int) := by unfold wrap64; omega
  have hi1 : (l1 : Int) < (ls : Int) := by omega
  have hi2 : (0 : Int) ≤ (l1 : Int) := by omega
  have Hl1 := Lib.hid hl1; clear hl1
  refine calls_marks Tryz.func129 rfl ?_
  simp only [Tryz.ntmps129, List.size_toArray, List.length_cons, List.length_nil, Nat.reduceAdd, Nat.reduceSub, Array.replicate_succ, Array.replicate_zero, List.push_toArray, List.append_toArray, List.nil_append, List.cons_append]
  go_wp2_with fail
  refine (Hqr.out _).mono ?_
  rintro e w1 ⟨rfl, hb1⟩
  obtain ⟨hcc, hff⟩ := bcell hb1
  have hz1 : w.heap.size < w1.heap.size := by have := hb1.size; simp at this; omega
  have hB1 : Below w.heap.size w w1 := (Hb.out _).trans (hb1.mono (by simp))
  have hS0 : w1.cell? ⟨w.heap.size, 0, none⟩ = some (.slice (some ⟨b0, off, none⟩) ls c0) := by rw [hcc _ _ (by simp)]; simp [go_sem]
  have hS1 : w1.cell? ⟨w.heap.size, 1, none⟩ = some (.slice (some ⟨b1, off1, none⟩) ld c1) := by rw [hcc _ _ (by simp)]; simp [go_sem]
  have hS1a : ∀ o, (w1.alloc o).cell? ⟨w.heap.size, 1, none⟩ = some (.slice (some ⟨b1, off1, none⟩) ld c1) := fun o => (World.cell?_alloc_lt _ _ _ (by show w.heap.size < _; omega)).trans hS1
  have hcx1 : w1.cell? ⟨b0, off + l1, none⟩ = some (.int .i64 m) := (hb1.cell (p := ⟨b0, off + l1, none⟩) (by simp; omega)).trans (((Hb.out _).cell (p := ⟨b0, off + l1, none⟩) hb0).trans Hcl.out)
  clear hcc hff hb1
  go_wp2_with fail
  refine (chunk_any (some ⟨b1, off1, none⟩) ld c1 m _ (by omega)).mono ?_
  rintro e w2 ⟨rfl, hw2⟩
  have hB2 : Below w.heap.size w w2 := by rw [hw2]; exact ((hB1.alloc hB1.size _).alloc (by have := hB1.size; simp; omega) _).alloc (by have := hB1.size; simp; omega) _
  have bE : Boxed w2 w1.heap.size 207 (.slice none 0 0) := by rw [hw2]; exact ((Boxed.new w1 207 (.slice none 0 0)).alloc _).alloc _
  have bS : Boxed w2 (w1.heap.size + 1) 42 (.slice (some ⟨b1, off1, none⟩) ld c1) := by
   rw [hw2]
   have := Boxed.new (w1.alloc (.cells #[.slice none 0 0] 207)) 42 (.slice (some ⟨b1, off1, none⟩) ld c1)
   rw [World.size_alloc] at this
   exact this.alloc _
  have bN : Boxed w2 (w1.heap.size + 1 + 1) 3 (.int .i64 (m : Int)) := by
   rw [hw2]
   have := Boxed.new ((w1.alloc (.cells #[.slice none 0 0] 207)).alloc (.cells #[.slice (some ⟨b1, off1, none⟩) ld c1] 42)) 3 (.int .i64 (m : Int))
   simp only [World.size_alloc] at this
   exact this
  have hsz2 : w2.heap.size = w1.heap.size + 3 := by rw [hw2]; simp
  clear hw2 hS0 hS1 hS1a
  have Hsz2 := Lib.hid hsz2; clear hsz2
  go_wp2_with fail
  refine wpIn_wide.1 (wpIn_rangeFunc_ownG (n := 9) rfl (by omega) (gf := 169) (lb := #[.pointer (some ⟨w1.heap.size + 1, 0, none⟩), .pointer (some ⟨w1.heap.size + 1 + 1, 0, none⟩)]) rfl trivial (fun args w => callFunc_enter Tryz.func169 (by kernel_rfl) rfl args w)
   (chunk_stops (w1.heap.size + 1) (w1.heap.size + 1 + 1) w.heap.size b1 off1 ld c1 m q Hq.out hc1 (by omega) (by omega) (by omega) _ (m : Int) rfl bS bN) keep2_t (keep2_b hB2.size bS.lt bN.lt) (Below.refl _ _) (fun _ => rfl)
   (LanesInv w d m w1.heap.size (w1.heap.size + 3) q) (fun _ _ _ => False) ?own (fun _ _ _ _ _ hs _ _ => hs) ?start
   (fun x => { tmps := #[Value.agg #[Value.slice (some ⟨b0, off, none⟩) ls c0, Value.slice (some { block := b1, off := off1 }) ld c1], Value.pointer (some { block := w.heap.size, off := 0 }), Value.slice none 0 0, Value.int IntKind.i64 0, Value.int IntKind.i64 ↑m, Value.int IntKind.i64 ↑ls,
    Value.pointer (some { block := w1.heap.size, off := 0 }), Value.slice (some ⟨b1, off1 + x.1 * m, none⟩) m m, Value.agg #[Value.slice (some ⟨b0, off, none⟩) ls c0, Value.slice (some { block := b1, off := off1 }) ld c1], Value.bool true, Value.bool false, Value.pointer (some { block := w.heap.size, off := 1 }),
    Value.slice (some { block := b1, off := off1 }) ld c1, Value.int IntKind.i64 ↑ld, Value.bool false, Value.pointer (some { block := w.heap.size, off := 0 }), Value.slice (some ⟨b0, off, none⟩) ls c0, Value.int IntKind.i64 ↑ls, Value.int IntKind.i64 ↑ls, Value.bool true,
    Value.pointer (some { block := w.heap.size, off := 0 }), Value.slice (some { block := b0, off := off }) ls c0, Value.int IntKind.i64 ↑ls, Value.int IntKind.i64 ↑l1, Value.pointer (some { block := b0, off := off + l1 }), Value.int IntKind.i64 ↑m, Value.pointer (some { block := w.heap.size, off := 1 }), Value.slice (some { block := b1, off := off1 }) ld c1, Value.int IntKind.i64 ↑m,
    Value.func (Fn.func 169) #[] #[Value.pointer (some { block := w1.heap.size + 1, off := 0 }), Value.pointer (some { block := w1.heap.size + 1 + 1, off := 0 })], Value.slice (some ⟨b1, off1 + x.1 * m, none⟩) m m,
    undef, undef, undef, undef, undef, undef], defers := [] }) ?assign ?body ?done ?stop)
  case own => exact LanesInv.own _ _ _ _ _ _ _ hB2.size
  case start => exact ⟨_, [], bE, RowR.nil _ _, rfl, fun _ => rfl, hB2, by rw [Hsz2.out]; exact Nat.le_refl _⟩
  case assign =>
   intro l x W K hK
   unfold chunkEnc
   gi_wp2
   exact hK
  case body =>
   rintro l pre x W ⟨v, xss, bEW, ⟨vs, hvo, hvi⟩, hxl, hcond, hBW, hszW⟩ hpl
   have hxm : x.1 * m + m ≤ ld := by
    have h1 : (x.1 + 1) * m ≤ q * m := Nat.mul_le_mul_right m x.2
    rw [Hq.out, Nat.succ_mul] at h1
    exact h1
   have hql : q ≤ 65536 := by
    have h1 : q * 1 ≤ q * m := Nat.mul_le_mul_left q hm1
    rw [Hq.out] at h1; omega
   obtain ⟨ys, hys⟩ : ∃ ys, (d.drop (x.1 * m)).take m = ys := ⟨_, rfl⟩
   have hyl : ys.length = m := by rw [← hys, List.length_take, List.length_drop, ← Hld.out]; omega
   have hyI : ∀ W' : World, Below w.heap.size w W' → IntsAt .i64 W' (some ⟨b1, off1 + x.1 * m, none⟩) ys := fun W' hW' => by rw [← hys]; exact (H1.out.below hW' (Nat.le_refl _)).at (x.1 * m) m
   have hE0 := bEW.cell
   have hEf := bEW.frozen
   have hElt := bEW.lt
   have Hql := Lib.hid hql; have Hyl := Lib.hid hyl; have HyI := Lib.hid hyI; have Hys := Lib.hid hys; have Hvo := Lib.hid hvo; have Hvi := Lib.hid hvi; have Hxl := Lib.hid hxl; have Hcond := Lib.hid hcond; have Hxm := Lib.hid hxm
   clear hql hyl hyI hys hvo hvi hxl hcond hxm hB1 bE bS bN
   obtain ⟨ir, hir, hr0, hr1, hr2⟩ := info_parts Tryz.infoR
   have Hir := Lib.hid hir; have Hr0 := Lib.hid hr0; have Hr1 := Lib.hid hr1; have Hr2 := Lib.hid hr2; clear hir hr0 hr1 hr2
   gi_wp2
   refine wpIn_region_roundZ (S := fun W' => W'.cell? ⟨w1.heap.size, 0, none⟩ = some v) (z := 5) l 7 (by kernel_rfl) (by kernel_rfl) ?out ?_
   case out => rintro ⟨_, _, h⟩; exact h
   have hSS : (fun W' : World => W'.cell? ⟨w1.heap.size, 0, none⟩ = some v) W.drew := hE0
   refine wpAnyZ_take (i := 0) (v := ?_) rfl (by kernel_rfl) (by kernel_rfl) (by kernel_rfl) (fun _ _ _ h => h) (by kernel_rfl) (Or.inl ⟨by rfl, ?_⟩) (by assumption) ?_
   rotate_left
   ·intro w' hSw
    try dsimp only at hSw
    try obtain ⟨hSw, hSw2⟩ := hSw
    go_simp
    try with_reducible rfl
   show wpAnyZ _ _ _ _ _ _ _ _ (Act.put _ (some 31) _) _
   simp only [Act.put, List.setIfInBounds_toArray, List.set_cons_zero, List.set_cons_succ]
   refine wpAnyZ_take (i := 1) (v := ?_) rfl (by kernel_rfl) (by kernel_rfl) (by kernel_rfl) (fun _ _ _ h => h) (by kernel_rfl) (Or.inl ⟨by rfl, ?_⟩) (by assumption) ?_
   rotate_left
   ·intro w' hSw
    try dsimp only at hSw
    try obtain ⟨hSw, hSw2⟩ := hSw
    go_simp
    try with_reducible rfl
   show wpAnyZ _ _ _ _ _ _ _ _ (Act.put _ (some 32) _) _
   simp only [Act.put, List.setIfInBounds_toArray, List.set_cons_zero, List.set_cons_succ]
   refine wpAnyZ_one (i := 2) (by kernel_rfl) rfl rfl (fun K hK => ?_)
   go_simp
   have hWd : Below w.heap.size w W.drew := hBW.drew
   refine (clone_n _ _ _ _ ys Hyl.out.symm (by rw [Hyl.out]; omega) (HyI.out _ hWd)).mono ?_
   rintro e w3 ⟨⟨u, rfl, hu⟩, hb3⟩
   have hE3 : w3.cell? ⟨w1.heap.size, 0, none⟩ = some v := (hb3.cell (p := ⟨w1.heap.size, 0, none⟩) hElt).trans hE0
   show K _ w3
   refine hK.out _ _ (.inr hE3) ?_
   clear hK K hSS
   obtain ⟨au, cu, rfl, _, _⟩ := hu.slice
   have hz3 : W.heap.size ≤ w3.heap.size := hb3.size
   have hb3' : Below W.heap.size W w3 := (Below.refl _ _).drew.trans hb3
   have HU := Lib.hid hu; have Hb3 := Lib.hid hb3'; clear hu hb3 hb3' hWd
   refine wpAnyZ_one (i := 3) (by kernel_rfl) rfl rfl (fun K hK => ?_)
   go_simp
   refine hK.out _ _ (.inr ((World.cell?_alloc_lt _ _ _ (by show w1.heap.size < _; omega)).trans hE3)) ?_
   clear hK K
   refine wpAnyZ_one (i := 4) (by kernel_rfl) rfl rfl (fun K hK => ?_)
   have hb3a : ∀ o, Below W.heap.size W (w3.alloc o) := fun o => Hb3.out.alloc Hb3.out.size _
   have hvo3 : ∀ o, (w3.alloc o).ownsRow (w1.heap.size + 3) 42 1 v xss.length vs := fun o => World.ownsRow.kept Hvo.out (grownBy_of_below (hb3a o)) (by cases v.ownBlock <;> simp)
   refine wp_append_own _ _ _ 207 rfl (w1.heap.size + 3) 42 ir (.slice none 0 0) 1 24 Tryz.underlying207 Hir.out Hr0.out Hr1.out Hr2.out rfl (by decide) v _ _ rfl (hvo3 _) ⟨w3.heap.size, 0, none⟩ 1 1 [.slice au ys.length cu] rfl rfl (fun i z hz => lit_cell w3 _ _ i z hz) (by simp [Value.oneCell']) (by have := Hxl.out; have := Hql.out; unfold maxLen; omega) (by have := Hxl.out; have := Hql.out; omega) (by simp; omega) ?_
   intro v' w5 hown5 hgrow5 _
   have hlow : ∀ k, v.ownBlock = some k → w1.heap.size + 3 ≤ k := fun k e => (World.ownsRow.lt Hvo.out k e).1
   have hb35 : Below (w1.heap.size + 3) W w5 := ((Hb3.out.mono hszW).alloc (by omega) _).grown hgrow5 (by simp; omega) hlow
   have bE5 : Boxed w5 w1.heap.size 207 v := (hb35.block _ (by omega)).trans bEW
   refine hK.out _ _ (.inr bE5.cell) ?_
   clear hK K
   obtain ⟨av', cv', rfl⟩ := ownsRow_slice hown5
   have hro : RowR (w1.heap.size + 3) w5 (.slice av' (xss.length + 1) cv') (xss ++ [ys]) := by
    refine RowR.push (hvo3 _) (fun i hi => ?_) ((HU.out.mono (by simpa using hszW)).below ((Below.refl _ _).alloc (Nat.le_refl _) _)) (fun i z hz => ?_) hown5 hgrow5
    ·obtain ⟨z, e1, e2, e3⟩ := Hvi.out i hi
     exact ⟨z, e1, e2.below (hb3a _), e3⟩
    ·have hi : i < xss.length := by
      have hl := Hvo.out.1
      by_cases h : i < vs.length
      ·omega
      ·rw [List.getElem?_eq_none (by omega)] at hz; cases hz
     obtain ⟨z', e1, e2, _⟩ := Hvi.out i hi
     rw [hz] at e1
     cases e1
     exact Apart.of_rows e2 HU.out
   have hcl : ∀ (k : Nat) (o' : Obj) (o : Obj), v.ownBlock = some k → (w3.alloc o).heap[k]? = some o' → o'.isCells = true := fun k o' o e ho => by
    obtain ⟨_, ⟨e', _⟩ | ⟨g, cap, cur, e', _, hg, _⟩⟩ := hvo3 o
    ·rw [e'] at e; cases e
    ·rw [e'] at e; cases e; rw [hg] at ho; cases ho; rfl
   have hko : KeepsOthers W w5 := ((((KeepsOthers.of_grownBy (grownBy_of_below Hb3.out) (by simp))).trans (KeepsOthers.alloc w3 _)).trans (KeepsOthers.of_grownBy hgrow5 (fun k o' e ho => hcl k o' _ e ho)))
   have hF5 := bE5.frozen
   have hE5 := bE5.cell
   have Hro := Lib.hid hro; have Hko := Lib.hid hko; have Hb35 := Lib.hid hb35
   clear hro hko hb35 hown5 hgrow5 hvo3 hb3a hcl hlow hE3 hE0 hEf
   refine wpAnyZ_one (i := 5) (by kernel_rfl) rfl rfl (fun K hK => ?_)
   go_simp
   refine hK.out _ _ (.inl (by omega)) ?_
   clear hK K
   refine wpAnyZ_done (by kernel_rfl) ?_ _
   gi_wp2
   have hn0 : w.heap.size ≤ w1.heap.size + 3 := by omega
   refine ⟨((Hko.out.trans (KeepsOthers.setCell _ ⟨w1.heap.size, 0, none⟩ _))).from _, ⟨(Hb35.out.mono hn0).setCell (p := ⟨w1.heap.size, 0, none⟩) (by show w.heap.size ≤ w1.heap.size; omega) _, ?_, ?_⟩, _, xss ++ [ys], Boxed.set _ bE5, Hro.out.setCell_lt (by show w1.heap.size < _; omega) _, by simp [Hxl.out], fun hpre => ?_, hBW.trans ((Hb35.out.mono hn0).setCell (p := ⟨w1.heap.size, 0, none⟩) (by show w.heap.size ≤ w1.heap.size; omega) _), by have := Hb35.out.size; simp; omega⟩
   ·exact (Below.heap_setCell _ ⟨w1.heap.size, 0, none⟩ _ _ (by simp)).trans (Hb35.out.block _ (by omega))
   ·exact (Below.heap_setCell _ ⟨w1.heap.size, 0, none⟩ _ _ (by show w1.heap.size + 1 + 1 ≠ w1.heap.size; omega)).trans (Hb35.out.block _ (by omega))
   ·obtain ⟨hp1, hp2⟩ := fin_prefix hpre
    rw [Hcond.out hp1, List.length_append, List.length_singleton, chunks_succ, ← Hys.out, hp2]
  case done =>
   rintro D ys W hD rfl ⟨v, xss, bEW, hx, hxl, hcond, hBW, hszW⟩ hK
   have hxe := hcond (List.prefix_refl _)
   rw [List.length_finRange] at hxe
   subst hxe
   obtain ⟨vs, hvo, hvi⟩ := hx
   have hE0 := bEW.cell
   have Hvo := Lib.hid hvo; have Hvi := Lib.hid hvi; have Hcond := Lib.hid hcond; have Hxl := Lib.hid hxl; clear hvo hvi hcond hxl hB1 bE bS bN
   go_wp2
   refine ⟨by simp, .inl ⟨_, _, rfl, run_takeDeferred hK, ?_⟩⟩
   refine ⟨_, results_tmp2 rfl _ _ _, ⟨_, rfl, ?_⟩, hBW.trans (belowK_b (w := w) (Nat.le_refl _) W D _ _ (by have := hB2.size; omega) hK rfl rfl)⟩
   exact (RowR.keptNC ⟨vs, Hvo.out, Hvi.out⟩ (grownBy_putObj' W D _) (fun r e => by cases e; exact ⟨_, hK, rfl⟩)).mono (by omega)
  case stop =>
   rintro D c' pre W _ _ h _
   exact h.elim

theorem lanes_any (w : World) (a0 a1 : Option Addr) (c0 c1 : Nat) (s d : List Int) (hs : s.length ≤ maxLen) (hc1 : d.length ≤ c1) (h0 : IntsAt .i64 w a0 s) (h1 : IntsAt .i64 w a1 d) :
  Calls Tryz.prog 129 #[.agg #[.slice a0 s.length c0, .slice a1 d.length c1]] w fun e w' => RetRows w.heap.size (lanes s d) e w' ∧ Below w.heap.size w w' := by
 cases hr : right s d with
 | false => exact lanes_bad w a0 a1 c0 c1 s d hs h0 (.inl hr)
 | true =>
  by_cases hd0 : d = []
  ·exact lanes_bad w a0 a1 c0 c1 s d hs h0 (.inr hd0)
  ·obtain ⟨_, g⟩ := right_good hr
   have hp : 0 < d.length := List.length_pos_iff.2 hd0
   obtain ⟨m, q, e1, e2, e3, e4⟩ := lanes_facts hr hp
   obtain ⟨b1, off1, rfl, _⟩ := h1 0 hp
   have hl : lanes s d = (chunks m d q, 0) := by
    unfold lanes
    rw [if_pos hr, e1, ← e4]
    simp only [Int.toNat_natCast]
    rw [Nat.mul_div_cancel _ (by omega)]
   rw [hl]
   exact lanes_good w a0 b1 off1 c0 c1 _ _ s d m q rfl rfl g.len hp (by have := g.le; omega) hc1 h0 h1 hr e1 e2 e3 e4

theorem RowR.slice {B : Nat} {w : World} {v : Value} {xss : List (List Int)} (h : RowR B w v xss) : ∃ a cap, v = .slice a xss.length cap ∧ xss.length ≤ maxLen ∧
  ∀ i, (hi : i < xss.length) → ∃ b off u, a = some ⟨b, off, none⟩ ∧ w.cell? ⟨b, off + i, none⟩ = some u ∧ RowI B w u xss[i] := by
 obtain ⟨vs, ⟨h1, h2⟩, hin⟩ := h
 rcases h2 with ⟨hv, hn⟩ | ⟨g, cap, cur, hv, hB, hg, hnc, hcm, hcs, ht⟩
 ·exact ⟨none, 0, by rw [hv, hn], by rw [hn]; exact Nat.zero_le _, fun i hi => absurd hi (by omega)⟩
 ·refine ⟨some ⟨g, 0, none⟩, cap, hv, Nat.le_trans hnc hcm, fun i hi => ?_⟩
  obtain ⟨u, e1, e2, _⟩ := hin i hi
  refine ⟨g, 0, u, rfl, ?_, e2⟩
  rw [Nat.zero_add, cell_of_row w g i cur 42 (0, 0) hg]
  have : (cur.toList.take (xss.length * 1))[i]? = some u := by rw [ht]; exact e1
  rw [List.getElem?_take, if_pos (by omega)] at this
  simpa using this
end Go.Proofs.YtokghjnkfabgiaaGreatDoor
