import Derived.Test.YtbhhmfkipfedfaaW14
namespace Go.Proofs.Ytbhhmfkipfedfaa
open Go.RowKit
attribute [local go_sem] Oper.semAt_some

/-- what slices.Chunk hands to yield: the i-th part of m numbers -/
def chunkEnc (b off m q : Nat) (i : Fin q) : Array Value := #[.slice (some ⟨b, off + i.1 * m, none⟩) m m]

/-- Below block n₀, and at the blocks Bs, Bn, the world is as it was. -/
def Keep2 (n₀ Bs Bn : Nat) (W W' : World) : Prop := Below n₀ W W' ∧ W'.heap[Bs]? = W.heap[Bs]? ∧ W'.heap[Bn]? = W.heap[Bn]?
theorem keep2_t {n₀ Bs Bn : Nat} {A B C : World} (h : Keep2 n₀ Bs Bn A B) (k : Keep2 n₀ Bs Bn B C) : Keep2 n₀ Bs Bn A C := ⟨h.1.trans k.1, k.2.1.trans h.2.1, k.2.2.trans h.2.2⟩
theorem keep2_b {n₀ Bs Bn : Nat} {w : World} (hn : n₀ ≤ w.heap.size) (hb : Bs < w.heap.size) (hb' : Bn < w.heap.size) (W : World) (l : Nat) (o o' : Obj) (hl : w.heap.size ≤ l) (h : W.heap[l]? = some o) (hc : o.isCells = false) (hw : o.isWalk = false) : Keep2 n₀ Bs Bn W (W.putObj l o') :=
  ⟨belowK_b hn W l o o' hl h hc hw, (grownBy_putObj' W l o').block Bs (Nat.lt_of_lt_of_le hb (Nat.le_of_lt (Nat.lt_of_le_of_lt hl (Array.getElem?_eq_some_iff.1 h).1))) (fun e => by cases e; omega),
    (grownBy_putObj' W l o').block Bn (Nat.lt_of_lt_of_le hb' (Nat.le_of_lt (Nat.lt_of_le_of_lt hl (Array.getElem?_eq_some_iff.1 h).1))) (fun e => by cases e; omega)⟩

theorem slice_lhm (w : World) (b off len cap l m : Nat) (hl : l + m ≤ cap) (hm : 0 < m) :
    (Instr.sliceAt 22 (.slice (some ⟨b, off, none⟩) len cap) (some (.int .i64 (l : Int))) (some (.int .i64 ((l : Int) + (m : Int)))) (some (.int .i64 ((l : Int) + (m : Int))))).run Try.prog w = .ok (.slice (some ⟨b, off + l, none⟩) m m) w := by
  rw [run_sliceAt_slice w 22 _ _ _ _ Try.underlying22, run_slice_lhm w 22 (some ⟨b, off, none⟩) len cap Try.underlying22 .i64 .i64 .i64 (l : Int) ((l : Int) + (m : Int)) ((l : Int) + (m : Int)) (by omega) (by omega) (by omega) (by omega), sized2]
  simp only [Result.andThen, sliced_subA]
  have e1 : ((l : Int)).toNat = l := rfl
  have e2 : ((l : Int) + (m : Int)).toNat = l + m := by omega
  rw [e1, e2]
  have e3 : subA (some ⟨b, off, none⟩) (l + m) l = some ⟨b, off + l, none⟩ := by
    unfold subA
    rw [if_neg (by omega)]
    simp only [Option.map_some, Addr.add]
    split <;> simp_all
  rw [e3]
  simp

set_option maxRecDepth 100000 in
set_option maxHeartbeats 2000000 in
theorem chunk1_in (l Bs Bn n₀ b off len cap m q : Nat) (hq : q * m = len) (hcap : len ≤ cap) (hm : 1 ≤ m) (hm2 : len ≤ 65536) (hm3 : m ≤ 65536) (J Jx : List (Fin q) → World → Prop) (hJd : ∀ pre W, J pre W → J pre W.drew)
    (hY : ∀ pre x W, J pre W → pre.length < q → YieldAt Fence.wide 7 Try.prog l (chunkEnc b off m q x) W fun e W' =>
      (e = .returned (.bool true) ∧ J (pre ++ [x]) W' ∧ Keep2 n₀ Bs Bn W W') ∨ (e = .returned (.bool false) ∧ Jx (pre ++ [x]) W'))
    (W : World) (hBs : Boxed W Bs 22 (.slice (some ⟨b, off, none⟩) len cap)) (hBn : Boxed W Bn 3 (.int .i64 (m : Int))) (h0 : J [] W) :
    CallsIn Fence.wide 8 Try.prog 33 #[.func (.yield l) #[] #[], .pointer (some ⟨Bs, 0, none⟩), .pointer (some ⟨Bn, 0, none⟩)] W fun e W' => (∃ v, e = .returned v) ∧
      ((∃ ys, ys = List.finRange q ∧ J ys W') ∨ (∃ pre, pre <+: List.finRange q ∧ Jx pre W')) := by
  refine callsIn_of_wp Try.func33 rfl trivial ?_ rfl
  simp only [Try.ntmps33, List.size_toArray, List.length_cons, List.length_nil, Nat.reduceAdd, Nat.reduceSub, Array.replicate_succ, Array.replicate_zero, List.push_toArray, List.append_toArray, List.nil_append, List.cons_append]
  have Hq := Lib.hid hq; clear hq
  gi_wp2
  gi_loopw [4] (fun i wr => ∃ (k j : Nat), k ≤ q ∧ j = k * m ∧ i = .int .i64 (j : Int) ∧ J ((List.finRange q).take k) wr ∧ Keep2 n₀ Bs Bn W wr)
    (fun i _ => len - (intOf i).toNat)
  case atStart => exact ⟨0, 0, Nat.zero_le _, by omega, rfl, by simpa using h0, Below.refl _ _, rfl, rfl⟩
  case round =>
    obtain ⟨k, j, hk, hj, rfl, hJs, hnx⟩ := hrel
    have hbs : wr.cell? ⟨Bs, 0, none⟩ = some (.slice (some ⟨b, off, none⟩) len cap) := Boxed.cell (hnx.2.1.trans hBs)
    have hbn : wr.cell? ⟨Bn, 0, none⟩ = some (.int .i64 (m : Int)) := Boxed.cell (hnx.2.2.trans hBn)
    have Hj := Lib.hid hj; clear hj
    by_cases hlt : k < q
    · have hjm : j + m ≤ len := by
        have h1 : (k + 1) * m ≤ q * m := Nat.mul_le_mul_right m hlt
        rw [Hq.out, Nat.succ_mul, ← Hj.out] at h1
        exact h1
      have htk : (List.finRange q).take k ++ [⟨k, hlt⟩] = (List.finRange q).take (k + 1) := by
        rw [List.take_succ_eq_append_getElem (by simp; omega)]
        congr 2
        apply Fin.ext
        simp
      obtain ⟨fn, tmps, assign, body, hy, hR⟩ := hY _ ⟨k, hlt⟩ wr.drew (hJd _ _ hJs) (by simp; omega)
      rw [htk] at hR
      have HR := Lib.hid hR; clear hR hJs htk
      simp only [chunkEnc] at hy
      rw [← Hj.out] at hy
      obtain ⟨lx, hlx⟩ : ∃ lx, len - j = lx := ⟨_, rfl⟩
      have hmlx : m ≤ lx := by omega
      obtain ⟨cx, hcx⟩ : ∃ cx, cap - j = cx := ⟨_, rfl⟩
      obtain ⟨ax, hax⟩ : ∃ ax, subA (some ⟨b, off, none⟩) cap j = ax := ⟨_, rfl⟩
      have hsl : ∀ W : World, (Instr.sliceAt 22 (.slice (some ⟨b, off, none⟩) len cap) (some (.int .i64 (j : Int))) none none).run Try.prog W = .ok (.slice ax lx cx) W := fun W => by
        rw [slice_lo W _ len cap .i64 j (by omega) (by omega), show ((j : Int)).toNat = j from rfl, hlx, hcx, hax]
      have hsl2 := fun W => slice_lhm W b off len cap j m (by omega) (by omega)
      have hjl : (j : Int) < (len : Int) := by
        have : j < len := by omega
        omega
      have hnlt : ¬ (lx : Int) < (m : Int) := by omega
      have e1 : IntKind.i64.wrap ((j : Int) + (m : Int)) = (j : Int) + (m : Int) := IntWalk.i64_in _ (by omega)
      have Hlx := Lib.hid hlx; clear hlx hcx hax
      have Hjm := Lib.hid hjm; clear hjm
      gi_wp2
      gi_region
      clear hsl hnlt
      gi_wp2
      refine HR.out.mono ?_
      rintro e W3 (⟨rfl, hJ3, hk3⟩ | ⟨rfl, hJx3⟩)
      · have hbn3 : W3.cell? ⟨Bn, 0, none⟩ = some (.int .i64 (m : Int)) := Boxed.cell (hk3.2.2.trans (hnx.2.2.trans hBn))
        have HJ3 := Lib.hid hJ3; clear hJ3 hsl2 hy hbs hbn hjl
        gi_wp2
        go_roundw
        case rel => exact ⟨k + 1, j + m, by omega, by rw [Nat.succ_mul, ← Hj.out], by go_num, HJ3.out, keep2_t hnx ⟨(Below.refl _ _).drew.trans hk3.1, hk3.2.1, hk3.2.2⟩⟩
        case measure => simp [intOf]; have := Hjm.out; omega
      · gi_wp2
        refine bodyPost_ret (results_none rfl _ _ _) rfl ?_
        exact ⟨⟨_, rfl⟩, .inr ⟨_, List.take_prefix _ _, hJx3⟩⟩
    · have hkq : k = q := by omega
      have hjl : ¬ ((j : Int) < (len : Int)) := by
        have := Hj.out; rw [hkq, Hq.out] at this; omega
      have hJ2 : J (List.finRange q) wr := by rw [hkq, List.take_of_length_le (by simp)] at hJs; exact hJs
      have HJ := Lib.hid hJ2; clear hJ2 hJs hkq
      gi_wp2
      go_end0
      exact ⟨⟨_, rfl⟩, .inl HJ.out⟩

set_option maxHeartbeats 1000000 in
theorem chunk_any (a : Option Addr) (len cap : Nat) (m : Int) (w : World) (hm : 1 ≤ m) :
    Calls Try.prog 29 #[.slice a len cap, .int .i64 m] w fun e w' => e = .returned (.func (.func 33) #[] #[.pointer (some ⟨w.heap.size, 0, none⟩), .pointer (some ⟨w.heap.size + 1, 0, none⟩)]) ∧
      w' = (w.alloc (.cells #[.slice a len cap] 22)).alloc (.cells #[.int .i64 m] 3) := by
  have h1 : ¬ (m < 1) := by omega
  go_enter Try.func29, Try.ntmps29
  go_wp2
  go_ret
  exact ⟨rfl, rfl⟩

theorem chunk_stops (Bs Bn n₀ b off len cap m q : Nat) (hq : q * m = len) (hcap : len ≤ cap) (hm : 1 ≤ m) (hm2 : len ≤ 65536) (hm3 : m ≤ 65536) (w : World) (mv : Int) (hmv : mv = (m : Int))
    (hc : Boxed w Bs 22 (.slice (some ⟨b, off, none⟩) len cap)) (hn : Boxed w Bn 3 (.int .i64 mv)) :
    SeqStopsK Fence.wide 8 Try.prog 33 #[.pointer (some ⟨Bs, 0, none⟩), .pointer (some ⟨Bn, 0, none⟩)] (chunkEnc b off m q) (Keep2 n₀ Bs Bn) (fun ys => ys = List.finRange q)
      (fun pre => pre <+: List.finRange q) q w := fun l J Jx W hW hJ _ hY h0 => by
  subst hmv
  exact chunk1_in l Bs Bn n₀ b off len cap m q hq hcap hm hm2 hm3 J Jx (fun pre W h => hJ pre W W.drew none h ⟨rfl, rfl, rfl, Nat.le_refl _, fun _ _ _ => rfl⟩ (fun r e => by cases e)) hY W ((hW.block Bs hc.lt).trans hc) ((hW.block Bn hn.lt).trans hn) h0
end Go.Proofs.Ytbhhmfkipfedfaa
