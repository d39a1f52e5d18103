import Derived.Test.YtmlfeocdcjhhaaaPH29
import Derived.Test.YtmlfeocdcjhhaaaPH30
namespace Go.Proofs.Ytmlfeocdcjhhaaa
set_option maxRecDepth 100000
open Go.RowKit
set_option linter.unusedVariables false
set_option linter.unusedSimpArgs false
attribute [local go_sem ↓] Go.wp_at_zero Go.wp_at_succ

theorem store_func (P : Program) (w : World) (a : Addr) (m : Mode) (fn : Fn) (first captured : Array Value) : (store a (.func fn first captured) m).run P w = stored P w a (.func fn first captured) m := run_store P w a _ m rfl
attribute [local go_sem] store_func
theorem count_facts {D : List Int} {fold : Bool} (hD : dimsB D = true) : ∀ (l : List (List Mono)) (n : Int) (q : List Int × Int), (∀ p ∈ l, growsB p = true) → 0 ≤ n → countR D fold l n = .ok q → q.1.length = l.length ∧ (∀ k ∈ q.1, 0 ≤ k ∧ k ≤ 65536) ∧ 0 ≤ q.2
  | [], n, q, _, h0, h => by cases h; exact ⟨rfl, by simp, h0⟩
  | p :: r, n, q, hg, h0, h => by
    rw [countR] at h
    cases hv : valR D p 122 with
    | error e => rw [hv] at h; cases h
    | ok k =>
      rw [hv] at h
      have hk0 := valR_nn hD (hg p (by simp)) hv
      change (if 65536 < k then _ else _) = _ at h
      split at h
      · cases h
      · rename_i hk
        obtain ⟨k', hk'⟩ : ∃ k', (if (fold && r.isEmpty) = true then k + 1 else k) = k' := ⟨_, rfl⟩
        have hk1 : 0 ≤ k' := by rw [← hk']; split <;> omega
        rw [hk'] at h
        have hn : 0 ≤ min ((if k' = 0 then 0 else n) * k') 4194304 := by
          have : 0 ≤ (if k' = 0 then 0 else n) * k' := Int.mul_nonneg (by split <;> omega) hk1
          omega
        cases hr : countR D fold r (min ((if k' = 0 then 0 else n) * k') 4194304) with
        | error e => rw [hr] at h; cases h
        | ok q2 =>
          rw [hr] at h
          cases h
          obtain ⟨h1, h2, h3⟩ := count_facts hD r _ q2 (fun x hx => hg x (List.mem_cons_of_mem _ hx)) hn hr
          refine ⟨by simp [h1], fun x hx => ?_, h3⟩
          rcases List.mem_cons.1 hx with e | e
          · subst e; omega
          · exact h2 x e
/-- the blocks of the machine's memory -/
def memOwn (q : MQ) (vals : List Value) (g : Nat) : Prop := (Value.slice q.ma q.ml q.mc).ownBlock = some g ∨ ∃ v ∈ vals, v.ownBlock = some g
/-- between two steps: O's blocks are not written -/
structure RunS (wB : World) (O : Nat → Prop) (N M : Nat) (q : MQ) (D : List Int) (vals : List Value) (w : World) (mem : List (List Int)) : Prop where
  mac : MacS (fun g => O g ∨ memOwn q vals g) w M q D []
  rows : MemAt (memOwn q vals) w q.ma q.ml q.mc vals mem
  memI : MemI mem
  memN : mem.length = N
  sep : ∀ (i j : Nat) (v u : Value) (g : Nat), i ≠ j → vals[i]? = some v → vals[j]? = some u → v.ownBlock = some g → u.ownBlock ≠ some g
  below : Below wB.heap.size wB w
  old : ∀ g, g < wB.heap.size → O g
  dis : ∀ g, O g → ¬ memOwn q vals g
  t0 : 0 ≤ q.t
  t1 : q.t ≤ 2097152
theorem MemAt.own {P : Nat → Prop} {w : World} {q : MQ} {vals : List Value} {mem : List (List Int)} (h : MemAt P w q.ma q.ml q.mc vals mem) : MemAt (memOwn q vals) w q.ma q.ml q.mc vals mem :=
  ⟨h.hdr, fun g e => .inl e, fun k hk => by
    obtain ⟨v, e, hr, _⟩ := h.row k hk
    exact ⟨v, e, hr, fun g hg => .inr ⟨v, List.mem_of_getElem? e, hg⟩⟩⟩
/-- a step of a right core, by value -/
structure StepA (wB : World) (N : Nat) (s : Stp) (pa la oa : Option Addr) : Prop where
  pos : monoRep.Els wB pa s.pos
  posl : s.pos.length ≤ 9223372036854775807
  loops : polyRep.Els wB la s.loops
  loops4 : s.loops.length ≤ 4
  ops : copRep.Els wB oa s.ops
  opsl : s.ops.length ≤ 256
  dep : 0 ≤ depthI s.ops
  opk : ∀ o ∈ s.ops, OpK s.loops.length N o
  grows : growsB s.pos = true
  lgrows : ∀ p ∈ s.loops, growsB p = true
  buf : 0 ≤ s.buf ∧ s.buf < N
  how : s.how ≠ 1 → s.loops ≠ []
def StepE (wB : World) (O : Nat → Prop) (N M : Nat) (q : MQ) (D : List Int) (vals : List Value) (w : World) (r : Ex (List (List Int) × Int)) (e : Ending) (w' : World) : Prop := match r with
  | .error n => e = panE n ∧ KB (fun g => ¬ O g) w w'
  | .ok st => e = .returned (.tuple #[]) ∧ RunS wB O N M { q with t := st.2 } D vals w' st.1 ∧ KB (fun g => ¬ O g) w w'
theorem sub_zero {a : Option Addr} (h : a = none ∨ ∃ g, a = some ⟨g, 0, none⟩) (m : Nat) : subA a m 0 = a := by
  unfold subA
  split
  · rfl
  · rcases h with rfl | ⟨g, rfl⟩
    · rfl
    · simp [Addr.add]
/-- where a list of numbers of the call's own lies -/
theorem RowI.where {B : Nat} {w : World} {a : Option Addr} {n c : Nat} {xs : List Int} (h : RowI B w (.slice a n c) xs) : (a = none ∨ ∃ g, a = some ⟨g, 0, none⟩ ∧ B ≤ g ∧ g < w.heap.size) ∧ IntsAt .i64 w a xs ∧ xs.length ≤ c := by
  obtain ⟨a', c', e, h3, h4⟩ := h.slice
  simp only [Value.slice.injEq] at e
  obtain ⟨rfl, hn, rfl⟩ := e
  refine ⟨?_, h4, ?_⟩
  · obtain ⟨_, ⟨e, _⟩ | ⟨g, cap, cur, e, hb, hg, _⟩⟩ := h
    · simp only [Value.slice.injEq] at e; exact .inl e.1
    · simp only [Value.slice.injEq] at e; exact .inr ⟨g, e.1, hb, block_lt hg⟩
  · obtain ⟨_, ⟨e, e2⟩ | ⟨g, cap, cur, e, hb, hg, hle, _⟩⟩ := h
    · omega
    · simp only [Value.slice.injEq] at e; obtain ⟨-, -, rfl⟩ := e; exact hle
set_option maxHeartbeats 16000000 in
theorem step_any (wB w : World) (O : Nat → Prop) (N M : Nat) (q : MQ) (D : List Int) (vals : List Value) (mem : List (List Int)) (s : Stp) (pa la oa : Option Addr) (pc lc oc : Nat) (h : RunS wB O N M q D vals w mem) (ha : StepA wB N s pa la oa)
    (hd : IntsAt .i64 wB q.ad D) (hDl : D.length ≤ 6) (hD : dimsB D = true) :
    Calls Try.prog 42 #[.pointer (some ⟨M, 0, none⟩), .agg #[.int .i64 s.how, .int .i64 s.buf, .slice pa s.pos.length pc, .slice la s.loops.length lc, .int .u8 s.fn, .slice oa s.ops.length oc]] w (StepE wB O N M q D vals w (stepR D s (mem, q.t))) := by
  obtain ⟨R, hR⟩ : ∃ R, stepR D s (mem, q.t) = R := ⟨_, rfl⟩
  rw [hR]
  obtain ⟨v, hrow, hvr, hvP⟩ := h.mac.row
  have hone := own_cell1 hvr
  obtain ⟨z, hz⟩ : ∃ z, w.heap.size = z := ⟨_, rfl⟩
  obtain ⟨pl, hpl⟩ : ∃ n, s.pos.length = n := ⟨_, rfl⟩
  obtain ⟨ol, hol⟩ : ∃ n, s.ops.length = n := ⟨_, rfl⟩
  obtain ⟨ll, hll⟩ : ∃ n, s.loops.length = n := ⟨_, rfl⟩
  have hM : M < z := by rw [← hz]; exact block_lt hrow
  have hba : Below w.heap.size w ((w.alloc (.cells #[.pointer (some ⟨M, 0, none⟩)] 79)).alloc (.cells #[.int .i64 s.how, .int .i64 s.buf, .slice pa pl pc, .slice la ll lc, .int .u8 s.fn, .slice oa ol oc] 42)) := ((Below.refl _ _).alloc (Nat.le_refl _) _).alloc (by simp) _
  have hn2 := new2 (Below.refl _ ((w.alloc (.cells #[.pointer (some ⟨M, 0, none⟩)] 79)).alloc (.cells #[.int .i64 s.how, .int .i64 s.buf, .slice pa pl pc, .slice la ll lc, .int .u8 s.fn, .slice oa ol oc] 42)))
  rw [hz] at hn2
  have hsz : ((w.alloc (.cells #[.pointer (some ⟨M, 0, none⟩)] 79)).alloc (.cells #[.int .i64 s.how, .int .i64 s.buf, .slice pa pl pc, .slice la ll lc, .int .u8 s.fn, .slice oa ol oc] 42)).heap.size = z + 2 := by simp [hz]
  rw [hpl, hol, hll]
  have HRR := Lib.hid hR; have HH := Lib.hid h; have HA := Lib.hid ha; have HD := Lib.hid hd; have HDD := Lib.hid hD; have HROW := Lib.hid hrow; have HVR := Lib.hid hvr; have HVP := Lib.hid hvP; have HPL := Lib.hid hpl; have HOL := Lib.hid hol; have HLL := Lib.hid hll; have HBA := Lib.hid hba; have HN2 := Lib.hid hn2; have HSZ := Lib.hid hsz; have HONE := Lib.hid hone
  clear hR h ha hd hD hrow hvr hvP hpl hol hll hba hn2 hsz hone
  have hmf : ∀ (fn : Fn) (first cap : Array Value) (w : World), (Instr.makeFunc fn first cap).run Try.prog w = .ok (.func fn first cap) w := fun _ _ _ _ => rfl
  go_enter Try.func42, Try.ntmps42
  go_upto_region 1 with fail
  obtain ⟨W0, hW0⟩ : ∃ W, ((w.alloc (.cells #[.pointer (some ⟨M, 0, none⟩)] 79)).alloc (.cells #[.int .i64 s.how, .int .i64 s.buf, .slice pa pl pc, .slice la ll lc, .int .u8 s.fn, .slice oa ol oc] 42)) = W := ⟨_, rfl⟩
  rw [hW0] at HBA HN2 HSZ ⊢
  clear hW0
  have hb0 : Below wB.heap.size wB W0 := HH.out.below.trans (HBA.out.mono HH.out.below.size)
  have hcn := count_any W0 M q D v (block_below HROW.out HBA.out) HONE.out s.how s.buf s.fn pa pl pc la lc s.loops oa ol oc (HA.out.loops.below polyRep hb0 (Nat.le_refl _)) HA.out.loops4 (by rw [← HOL.out]; exact HA.out.opsl) HA.out.lgrows (HD.out.below hb0 (Nat.le_refl _)) hDl HDD.out ⟨HH.out.t0, HH.out.t1⟩
  rw [HLL.out] at hcn
  have hrun : ((countR D (s.how == 2) s.loops ol).bind fun c => if 2097152 < q.t + c.2 then .error 122 else (turnsR D s (c.1.getLastD 0) (idxs (if s.how = 2 then c.1.dropLast else c.1)) (mem, 0, 0)).map fun r => (r.1, q.t + c.2)) = R := by rw [← HOL.out]; exact HRR.out
  have hkO : ∀ W', KB (fun g => g = M) W0 W' → KB (fun g => ¬ O g) w W' := fun W' hk => (KB.of_below (S := fun g => ¬ O g) HBA.out (fun g h1 h2 => absurd h2 (by omega))).trans (hk.mono fun g _ e => e ▸ fun hO => HH.out.mac.nM (.inl hO))
  have HKO := Lib.hid hkO
  clear hkO hb0
  have m0 := cell_of_row W0 z 0 _ _ _ HN2.out.1
  cases hc : countR D (s.how == 2) s.loops ol with
  | error e =>
    rw [hc] at hcn hrun
    obtain rfl : R = .error e := hrun.symm
    have HC := Lib.hid hcn
    clear hcn hrun hc
    go_wp2_with (first | ((with_reducible show wpList _ _ _ ({ dst := some _, op := Op.load 42 (.tmp 3), type := _, pos := _, after := _, guard := _ } :: _) _ _); (refine wpList_loadW (by rfl) 42 _ rfl (z + 1) rfl _ _ (0, 0) _ HN2.out.2 Try.underlying42 rfl (by kernel_rfl) ?_)) | (go_at_call 74; refine HC.out.mono ?_; rintro e1 w1 ⟨rfl, hk1⟩; unfold panE))
    exact ⟨rfl, rfl, HKO.out _ hk1⟩
  | ok c =>
    obtain ⟨ks, nn⟩ := c
    rw [hc] at hcn hrun
    have hcf := count_facts HDD.out s.loops ol (ks, nn) HA.out.lgrows (by omega) hc
    unfold CountE at hcn
    dsimp only [Except.bind] at hcn hrun hcf
    by_cases hbig : 2097152 < q.t + nn
    · rw [if_pos hbig] at hrun
      obtain rfl : R = .error 122 := hrun.symm
      simp only [if_pos hbig] at hcn
      have HC := Lib.hid hcn
      clear hcn hrun hc hcf hbig
      go_wp2_with (first | ((with_reducible show wpList _ _ _ ({ dst := some _, op := Op.load 42 (.tmp 3), type := _, pos := _, after := _, guard := _ } :: _) _ _); (refine wpList_loadW (by rfl) 42 _ rfl (z + 1) rfl _ _ (0, 0) _ HN2.out.2 Try.underlying42 rfl (by kernel_rfl) ?_)) | (go_at_call 74; refine HC.out.mono ?_; rintro e1 w1 ⟨hk1, -, rfl⟩; unfold panE))
      exact ⟨rfl, rfl, HKO.out _ hk1⟩
    · rw [if_neg hbig] at hrun
      simp only [if_neg hbig] at hcn
      obtain ⟨hkl, hkb, hn0⟩ := hcf
      obtain ⟨kl, hkln⟩ : ∃ n, ks.length = n := ⟨_, rfl⟩
      rw [hkln] at hcn hkl
      have HC := Lib.hid hcn; have HRUN := Lib.hid hrun; have HKL := Lib.hid hkl; have HKB := Lib.hid hkb; have HKLN := Lib.hid hkln; have HBIG := Lib.hid hbig; have HN0 := Lib.hid hn0
      clear hcn hrun hc hbig hkl hkb hn0 hkln
      go_upto_region 2 with (first | ((with_reducible show wpList _ _ _ ({ dst := some _, op := Op.load 42 (.tmp 3), type := _, pos := _, after := _, guard := _ } :: _) _ _); (refine wpList_loadW (by rfl) 42 _ rfl (z + 1) rfl _ _ (0, 0) _ HN2.out.2 Try.underlying42 rfl (by kernel_rfl) ?_)) | (go_at_call 74; refine HC.out.mono ?_; rintro e1 w1 ⟨hk1, hrow1, ka, kc, rfl, hro⟩))
      have hmach := (hk1.block z (by rw [HSZ.out]; omega) (by omega)).trans HN2.out.1
      have hstep := (hk1.block (z + 1) (by rw [HSZ.out]; omega) (by omega)).trans HN2.out.2
      obtain ⟨kb, hkbz⟩ : ∃ b, w1.heap.size = b := ⟨_, rfl⟩
      have hsz1 : z + 2 ≤ kb := by have := hk1.size; rw [HSZ.out] at this; omega
      have hbk : Below w1.heap.size w1 (w1.alloc (.cells #[.slice ka kl kc] 50)) := (Below.refl _ _).alloc (Nat.le_refl _) _
      have hkn := heap_new hkbz (o := .cells #[.slice ka kl kc] 50)
      have hsz2 : (w1.alloc (.cells #[.slice ka kl kc] 50)).heap.size = kb + 1 := by simp [hkbz]
      obtain ⟨W2, hW2⟩ : ∃ W, w1.alloc (.cells #[.slice ka kl kc] 50) = W := ⟨_, rfl⟩
      rw [hW2] at hbk hkn hsz2 ⊢
      rw [hkbz]
      clear hW2 m0 HC
      obtain ⟨hwh, hki, hkc⟩ := hro.where
      rw [HKLN.out] at hkc
      have hst2 := block_below hstep hbk
      have f0 := cellBW (cell_of_row W2 kb 0 _ _ _ hkn)
      have y0 := cellBW (cell_of_row W2 (z + 1) 0 _ _ _ hst2); have y1 := cellBW (cell_of_row W2 (z + 1) 1 _ _ _ hst2); have y2 := cellBW (cell_of_row W2 (z + 1) 2 _ _ _ hst2); have y3 := cellBW (cell_of_row W2 (z + 1) 3 _ _ _ hst2); have y4 := cellBW (cell_of_row W2 (z + 1) 4 _ _ _ hst2); have y5 := cellBW (cell_of_row W2 (z + 1) 5 _ _ _ hst2)
      have hfo : ∀ p : BelowW W2, _ := fun p => fold_any p.world s (.slice pa pl pc) (.slice la ll lc) (.slice oa ol oc)
      obtain ⟨f, hf, hfk, hfl⟩ : ∃ f : Nat, (if s.how = 2 then (1 : Int) else 0) = f ∧ f ≤ kl ∧ (outerI s ks).length = kl - f := by
        have hkln := HKLN.out
        unfold outerI
        by_cases h2 : s.how = 2
        · have := List.length_pos_iff.2 (HA.out.how (by omega))
          have := HKL.out
          exact ⟨1, by rw [if_pos h2]; rfl, by omega, by rw [if_pos h2, List.length_dropLast]; omega⟩
        · exact ⟨0, by rw [if_neg h2]; rfl, by omega, by rw [if_neg h2]; omega⟩
      simp only [hf] at hfo
      have hk4 : kl ≤ 4 := by have := HA.out.loops4; have := HKL.out; omega
      have s1 : ∀ W, (Instr.sliceAt 50 (.slice ka kl kc) none (some (.int .i64 ((kl : Int) - (f : Int)))) none).run Try.prog W = .ok (.slice ka (kl - f) kc) W := fun W => by
        have := slice_hi W ka kl kc .i64 ((kl : Int) - (f : Int)) (by omega) (by omega)
        rw [show ((kl : Int) - (f : Int)).toNat = kl - f by omega, sub_zero (hwh.imp id fun ⟨g, e, _⟩ => ⟨g, e⟩)] at this
        exact this
      have HFO := Lib.hid hfo; have HMACH := Lib.hid hmach; have HSTEP := Lib.hid hstep; have HBK := Lib.hid hbk; have HKN := Lib.hid hkn; have HSZ2 := Lib.hid hsz2; have HWH := Lib.hid hwh; have HKI := Lib.hid hki; have HFL := Lib.hid hfl; have HK1 := Lib.hid hk1; have HROW1 := Lib.hid hrow1; have HKBZ := Lib.hid hkbz; have HRO := Lib.hid hro
      clear hfo hmach hstep hbk hkn hsz2 hwh hki hfl hk1 hrow1 hst2 hf hkbz hro
      refine wp_region_below (by kernel_rfl) (by kernel_rfl) ?_
      repeat (go_big_quiet_step (first | (go_at_call 75; refine callsBW (HFO.out _))))
      refine wpQuiet_nil ?_
      rintro wx ⟨⟨wq, hwq⟩, hx⟩
      obtain rfl : wx = wq := hx
      obtain ⟨nb, hnb⟩ : ∃ b, wx.heap.size = b := ⟨_, rfl⟩
      have hnn := heap_new hnb (o := .cells #[.int .i64 0] 3)
      have hb3 : Below W2.heap.size W2 (wx.alloc (.cells #[.int .i64 0] 3)) := hwq.alloc hwq.size _
      have hs3 : (wx.alloc (.cells #[.int .i64 0] 3)).heap.size = nb + 1 := by simp [hnb]
      have hnk : kb < nb := by have := hwq.size; rw [HSZ2.out] at this; omega
      clear hwq f0 y0 y1 y2 y3 y4 y5 HFO s1
      go_upto_region 4 with fail
      obtain ⟨w3, hw3⟩ : ∃ W, wx.alloc (.cells #[.int .i64 0] 3) = W := ⟨_, rfl⟩
      rw [hw3] at hnn hb3 hs3 ⊢
      clear hw3 hnb
      have hpn := heap_new hs3 (o := .cells #[.func (.func 76) #[] #[.pointer (some ⟨z, 0, none⟩), .pointer (some ⟨z + 1, 0, none⟩), .pointer (some ⟨nb, 0, none⟩)]] 119)
      have hb4 : Below W2.heap.size W2 (w3.alloc (.cells #[.func (.func 76) #[] #[.pointer (some ⟨z, 0, none⟩), .pointer (some ⟨z + 1, 0, none⟩), .pointer (some ⟨nb, 0, none⟩)]] 119)) := hb3.alloc hb3.size _
      have hn4 := block_alloc hnn (.cells #[.func (.func 76) #[] #[.pointer (some ⟨z, 0, none⟩), .pointer (some ⟨z + 1, 0, none⟩), .pointer (some ⟨nb, 0, none⟩)]] 119)
      have hs4 : (w3.alloc (.cells #[.func (.func 76) #[] #[.pointer (some ⟨z, 0, none⟩), .pointer (some ⟨z + 1, 0, none⟩), .pointer (some ⟨nb, 0, none⟩)]] 119)).heap.size = nb + 2 := by simp [hs3]
      have HS3 := Lib.hid hs3
      clear hnn hb3 hs3
      go_upto_region 5 with fail
      rw [HS3.out]
      obtain ⟨w4, hw4⟩ : ∃ W, w3.alloc (.cells #[.func (.func 76) #[] #[.pointer (some ⟨z, 0, none⟩), .pointer (some ⟨z + 1, 0, none⟩), .pointer (some ⟨nb, 0, none⟩)]] 119) = W := ⟨_, rfl⟩
      rw [hw4] at hpn hb4 hn4 hs4 ⊢
      clear hw4
      have hln := heap_new hs4 (o := .cells #[.int .i64 0] 2)
      have hb5 : Below W2.heap.size W2 (w4.alloc (.cells #[.int .i64 0] 2)) := hb4.alloc hb4.size _
      have hn5 := block_alloc hn4 (.cells #[.int .i64 0] 2)
      have hp5 := block_alloc hpn (.cells #[.int .i64 0] 2)
      have hs5 : (w4.alloc (.cells #[.int .i64 0] 2)).heap.size = nb + 3 := by simp [hs4]
      have HS4 := Lib.hid hs4
      clear hs4 hb4 hn4 hpn
      go_upto_region 6 with fail
      rw [HS4.out]
      obtain ⟨w5, hw5⟩ : ∃ W, w4.alloc (.cells #[.int .i64 0] 2) = W := ⟨_, rfl⟩
      rw [hw5] at hln hb5 hn5 hp5 hs5 ⊢
      clear hw5 HS4 HS3
      -- what lies in memory
      have hkbz := HKBZ.out
      have hb15 : Below w1.heap.size w1 w5 := HBK.out.trans (hb5.mono HBK.out.size)
      have hmo : ∀ g, memOwn q vals g → g < z := fun g e => by rw [← hz]; exact HH.out.mac.lt g (.inr e)
      have hO : ∀ g, O g → g < z := fun g e => by rw [← hz]; exact HH.out.mac.lt g (.inl e)
      have hkab : ∀ b off, ka = some ⟨b, off, none⟩ → z + 2 ≤ b ∧ b < kb := fun b off e => by
        rcases HWH.out with e2 | ⟨g, e2, h1, h2⟩
        · rw [e] at e2; cases e2
        · rw [e] at e2
          cases e2
          rw [HSZ.out] at h1
          omega
      have hvM : ∀ g, v.ownBlock = some g → g ≠ M := fun g hg e => by
        obtain ⟨cur, hcur⟩ := own_typed HVR.out hg
        rw [e, HROW.out] at hcur
        exact absurd (cells_ty hcur) (by decide)
      have hvz : ∀ g, v.ownBlock = some g → g < z := fun g hg => by rw [← hz]; exact (World.ownsRow.lt HVR.out g hg).2
      have hv0 : RowI 0 W0 v [] := own_keep HVR.out (KeepTy.below HBA.out)
      have hv1 : RowI 0 w1 v [] := HK1.out.row hv0 (fun g hg e => hvM g hg e)
      have hv5 : RowI 0 w5 v [] := own_keep hv1 (KeepTy.below hb15)
      have hMn := HH.out.mac.nM
      have hM1 : M ≠ z := by omega
      obtain ⟨x, hx⟩ : ∃ x : SQ, x = { M := M, sb := z + 1, mb := z, nb := nb, pb := nb + 1, lb := nb + 2, kb := kb, pa := pa, pc := pc, la := la, lc := lc, oa := oa, oc := oc, ka := ka, kc := kc, vals := vals, q := { q with t := q.t + nn } } := ⟨_, rfl⟩
      have hown : ∀ g, x.own g → g = z + 1 ∨ g = z ∨ g = nb ∨ g = nb + 1 ∨ g = nb + 2 ∨ g = kb ∨ memOwn q vals g := fun g e => by rw [hx] at e; exact e
      have hownM : ∀ g, memOwn q vals g → x.own g := fun g e => by rw [hx]; exact .inr (.inr (.inr (.inr (.inr (.inr e)))))
      have hC : StepC wB (nb + 3) D s ks N x := by
        refine ⟨by rw [hx]; exact HA.out.pos, HA.out.posl, by rw [hx]; exact HA.out.ops, HA.out.opsl, HA.out.dep, HA.out.opk, HA.out.grows, HA.out.buf, by rw [hx]; exact HD.out, hDl, HDD.out, ?_, fun g e => ?_, by rw [hx]; show M < nb + 3; omega, by rw [hx]; exact HH.out.sep, fun v hv e => ?_, ?_, HA.out.loops4, HKB.out, fun b off e => ?_⟩
        · have := HH.out.below.size
          omega
        · rcases hown g e with e | e | e | e | e | e | e
          · omega
          · omega
          · omega
          · omega
          · omega
          · omega
          · have := hmo g e; omega
        · rw [hx] at hv e
          have := hmo (nb + 2) (.inr ⟨v, hv, e⟩)
          omega
        · rw [HKLN.out, HKL.out, HLL.out]
        · rw [hx] at e
          have := hkab b off e
          omega
      obtain ⟨Q, hQ⟩ : ∃ Q : Nat → Prop, Q = fun g => O g ∨ ∃ off, ka = some ⟨g, off, none⟩ := ⟨_, rfl⟩
      have hQO : ∀ g, O g → Q g := fun g e => by rw [hQ]; exact .inl e
      have hQk : ∀ b off, x.ka = some ⟨b, off, none⟩ → Q b := fun b off e => by rw [hx] at e; rw [hQ]; exact .inr ⟨off, e⟩
      have hQd : ∀ g, Q g → O g ∨ (z + 2 ≤ g ∧ g < kb) := fun g e => by
        rw [hQ] at e
        rcases e with e | ⟨off, e⟩
        · exact .inl e
        · exact .inr (hkab g off e)
      have hdis : ∀ g, Q g → ¬ x.own g := fun g e e2 => by
        rcases hQd g e with e | e <;> rcases hown g e2 with e2 | e2 | e2 | e2 | e2 | e2 | e2
        all_goals first
          | exact HH.out.dis g e e2
          | (have := hO g e; omega)
          | (have := hmo g e2; omega)
          | omega
      have hwB5 : Below wB.heap.size wB w5 := by
        have h1 := HKO.out _ HK1.out
        exact (HH.out.below.trans (h1.below HH.out.below.size (fun g e => Nat.le_of_not_lt fun e2 => e (HH.out.old g e2)))).trans (hb15.mono (Nat.le_trans HH.out.below.size h1.size))
      have hmac : MacS (fun g => Q g ∨ x.own g) w5 x.M x.q D [] := by
        rw [hx]
        rw [hx] at hown
        refine ⟨⟨v, block_below HROW1.out hb15, hv5, fun g hg e => ?_⟩, fun e => ?_, fun g e => ?_, fun y hy => by cases hy⟩
        · have hgz := hvz g hg
          rcases e with e | e
          · rcases hQd g e with e | e
            · exact HVP.out g hg (.inl e)
            · omega
          · rcases hown g e with e | e | e | e | e | e | e
            any_goals omega
            exact HVP.out g hg (.inr e)
        · rcases e with e | e
          · rcases hQd M e with e | e
            · exact hMn (.inl e)
            · omega
          · rcases hown M e with e | e | e | e | e | e | e
            any_goals omega
            exact hMn (.inr e)
        · rcases e with e | e
          · rcases hQd g e with e | e
            · have := hO g e; omega
            · omega
          · rcases hown g e with e | e | e | e | e | e | e
            any_goals omega
            have := hmo g e; omega
      have hmem : MemAt x.own w5 x.q.ma x.q.ml x.q.mc x.vals mem := by
        have h1 := HH.out.rows.out HBA.out
        have h2 := h1.keep (HK1.out.mono fun g _ e e2 => hMn (.inr (e ▸ e2)))
        have h3 := (h2.out hb15).more hownM
        rw [hx] at h3 ⊢
        exact h3
      have hst : StepSt wB (nb + 3) D s ks N x Q w5 (mem, 0, 0) := by
        refine ⟨hmac, hmem, HH.out.memI, HH.out.memN, ?_, ?_, by rw [hx]; exact hn5, ?_, by rw [hx]; exact hln, ?_, by rw [hx]; exact HKI.out.below hb15 (Nat.le_refl _), hQk, hwB5, fun g e => hQO g (HH.out.old g e), hdis, by rw [hs5]; exact Nat.le_refl _, In64.zero, by show 0 ≤ _; omega⟩
        · rw [hx]
          unfold rowBox
          dsimp only
          rw [HPL.out, HOL.out, HLL.out]
          exact block_below HSTEP.out hb15
        · rw [hx]; exact block_below HMACH.out hb15
        · rw [hx]; exact hp5
        · rw [hx, HKLN.out]; exact block_below HKN.out hb5
      have hne : s.how ≠ 1 → ks ≠ [] := fun h1 h2 => by
        have h3 := List.length_pos_iff.2 (HA.out.how h1)
        have h4 : ks.length = s.loops.length := by rw [HKLN.out, HKL.out, HLL.out]
        rw [h2] at h4
        rw [← h4] at h3
        exact absurd h3 (by decide)
      have hki5 : IntsAt .i64 w5 ka (outerI s ks) := by
        have h1 := HKI.out.below hb15 (Nat.le_refl _)
        unfold outerI
        split
        · intro i hi
          rw [List.length_dropLast] at hi
          obtain ⟨b, off, e, hc⟩ := h1 i (by omega)
          exact ⟨b, off, e, by rw [List.getElem_dropLast]; exact hc⟩
        · exact h1
      have hpos : ∀ k ∈ outerI s ks, 0 ≤ k ∧ k ≤ 65536 := fun k hk => by
        unfold outerI at hk
        split at hk
        · exact HKB.out k ((List.dropLast_sublist ks).subset hk)
        · exact HKB.out k hk
      have hw := walk_any (nb + 3) (StepSt wB (nb + 3) D s ks N x) Q (step_walkS Q hC (fun g e => hQO g (HH.out.old g e)) hQk) (fun ix st => turnR D s (ks.getLastD 0) st ix) (.pointer (some ⟨x.sb, 0, none⟩)) (.pointer (some ⟨x.mb, 0, none⟩)) (.pointer (some ⟨x.lb, 0, none⟩)) (.pointer (some ⟨x.pb, 0, none⟩)) (.pointer (some ⟨x.kb, 0, none⟩)) w5 (mem, 0, 0) ka kc (outerI s ks)
        hki5 (fun b off e => by rw [hQ]; exact .inr ⟨off, e⟩) (by rw [HFL.out]; omega) hpos hst (by rw [hs5]; exact Nat.le_refl _) (fun Q' W st' ix G _ h1 h2 h3 _ h4 => do_any st' hC h1 ix G h2 h3 h4 hne)
      rw [HFL.out] at hw
      have hrun : ((runX (fun ix st => turnR D s (ks.getLastD 0) st ix) (idxs (outerI s ks)) (mem, 0, 0)).map fun r => (r.1, q.t + nn)) = R := by rw [← HRUN.out, turns_runX]; rfl
      have hkw5 : KB (fun g => ¬ O g) w w5 := (HKO.out _ HK1.out).trans (KB.of_below hb15 (fun g h1 h2 => absurd h2 (by omega)))
      have e1 : x.sb = z + 1 := by rw [hx]
      have e2 : x.mb = z := by rw [hx]
      have e3 : x.lb = nb + 2 := by rw [hx]
      have e4 : x.pb = nb + 1 := by rw [hx]
      have e5 : x.kb = kb := by rw [hx]
      rw [e1, e2, e3, e4, e5] at hw
      have HW := Lib.hid hw; have HRUN := Lib.hid hrun; have HKW := Lib.hid hkw5; have HX := Lib.hid hx; have HQO := Lib.hid hQO; have HOM := Lib.hid hownM
      clear hw hrun hkw5 hx hQO hownM hki5 hpos hne hst hmem hmac hwB5 hdis hQd hQk hQ hC hown hMn hv5 hv1 hv0 hvz hvM hkab hO hmo hb15 hkbz hln hb5 hn5 hp5 hs5 e1 e2 e3 e4 e5 hM1
      cases hrx : runX (fun ix st => turnR D s (ks.getLastD 0) st ix) (idxs (outerI s ks)) (mem, 0, 0) with
      | error e9 =>
        obtain rfl : R = .error e9 := by rw [← HRUN.out, hrx]; rfl
        rw [hrx] at HW
        unfold DoE at HW
        dsimp only at HW
        clear hrx
        go_wp2_with (go_at_call 78; refine HW.out.mono ?_; rintro e9 w9 ⟨rfl, hk9⟩; unfold panE)
        exact ⟨rfl, rfl, HKW.out.trans (hk9.mono fun g _ h e => h (HQO.out g e))⟩
      | ok st9 =>
        obtain rfl : R = .ok (st9.1, q.t + nn) := by rw [← HRUN.out, hrx]; rfl
        rw [hrx] at HW
        unfold DoE at HW
        dsimp only at HW
        clear hrx
        go_wp2_with (go_at_call 78; refine HW.out.mono ?_; rintro e9 w9 ⟨rfl, hs9, hk9⟩)
        go_end0
        have hx := HX.out
        have hm9 := hs9.mem
        have hmac := hs9.mac
        rw [hx] at hm9 hmac
        refine ⟨rfl, ⟨hmac.less fun g e => ?_, hm9.own, hs9.memI, hs9.memN, HH.out.sep, hs9.below, HH.out.old, HH.out.dis, ?_, ?_⟩, HKW.out.trans (hk9.mono fun g _ h e => h (HQO.out g e))⟩
        · rcases e with e | e
          · exact .inl (HQO.out g e)
          · exact .inr (by rw [← hx]; exact HOM.out g e)
        · have := HH.out.t0; have := HN0.out
          show 0 ≤ q.t + nn
          omega
        · have := HBIG.out
          show q.t + nn ≤ 2097152
          omega
end Go.Proofs.Ytmlfeocdcjhhaaa
