import Derived.Test.YtmlfeocdcjhhaaaPG3
namespace Go.Proofs.Ytmlfeocdcjhhaaa
set_option maxRecDepth 100000
open Go.RowKit
set_option linter.unusedVariables false
set_option linter.unusedSimpArgs false
attribute [local go_sem ↓] Go.wp_at_zero Go.wp_at_succ

theorem boxE {w : World} {G : Nat} {m : Mono} {t : TypeId} (h : w.heap[G]? = some (.cells m.enc.toArray t (0, 0))) {k : Nat} (hk : k < 6) : w.cell? ⟨G, 1 + k, none⟩ = some (.int .u8 (m.E.getD k 0)) := by
  rw [blockCells h]
  have hcs : k = 0 ∨ k = 1 ∨ k = 2 ∨ k = 3 ∨ k = 4 ∨ k = 5 := by omega
  rcases hcs with rfl | rfl | rfl | rfl | rfl | rfl <;> rfl
theorem E_at {m : Mono} (h : m.wf) (k : Nat) : 0 ≤ m.E.getD k 0 ∧ m.E.getD k 0 ≤ 255 := by
  rw [List.getD_eq_getElem?_getD]
  cases hc : m.E[k]? with
  | none => simp
  | some x => exact mono_E h x (List.mem_of_getElem? hc)
theorem degK_succ (m : Mono) {k : Nat} (hk : k < 6) : degK m (k + 1) = degK m k + m.E.getD k 0 := by
  have hcs : k = 0 ∨ k = 1 ∨ k = 2 ∨ k = 3 ∨ k = 4 ∨ k = 5 := by omega
  rcases hcs with rfl | rfl | rfl | rfl | rfl | rfl
  · show m.e0 = 0 + m.e0; omega
  · rfl
  · rfl
  · rfl
  · rfl
  · rfl
theorem degK_range {m : Mono} (h : m.wf) {k : Nat} (hk : k ≤ 6) : 0 ≤ degK m k ∧ degK m k ≤ 1530 := by
  have h0 := h.e0; have h1 := h.e1; have h2 := h.e2; have h3 := h.e3; have h4 := h.e4; have h5 := h.e5
  have hcs : k = 0 ∨ k = 1 ∨ k = 2 ∨ k = 3 ∨ k = 4 ∨ k = 5 ∨ k = 6 := by omega
  rcases hcs with rfl | rfl | rfl | rfl | rfl | rfl | rfl <;> simp only [degK, degF] <;> omega
theorem cmpI_drop (a b : Mono) {k : Nat} (hk : k < 6) : cmpI (a.E.drop k) (b.E.drop k) = if a.E.getD k 0 < b.E.getD k 0 then -1 else if b.E.getD k 0 < a.E.getD k 0 then 1 else cmpI (a.E.drop (k + 1)) (b.E.drop (k + 1)) := by
  have ha : a.E.drop k = a.E.getD k 0 :: a.E.drop (k + 1) := by
    rw [List.drop_eq_getElem_cons (show k < a.E.length from hk)]
    simp [List.getD_eq_getElem?_getD, List.getElem?_eq_getElem (show k < a.E.length from hk)]
  have hb : b.E.drop k = b.E.getD k 0 :: b.E.drop (k + 1) := by
    rw [List.drop_eq_getElem_cons (show k < b.E.length from hk)]
    simp [List.getD_eq_getElem?_getD, List.getElem?_eq_getElem (show k < b.E.length from hk)]
  rw [ha, hb, cmpI]

set_option maxHeartbeats 4000000 in
theorem degree_any (w : World) (m : Mono) (hm : m.wf) : Calls Try.prog 97 #[m.V] w fun e w' => e = .returned (.int .i64 (degF m)) ∧ Below w.heap.size w w' := by
  have n0 := World.alloc_heap_new w (.cells m.enc.toArray 47)
  have hbel : Below w.heap.size w (w.alloc (.cells m.enc.toArray 47)) := (Below.refl _ _).alloc (Nat.le_refl _) _
  obtain ⟨x, hx⟩ : ∃ x, w.heap.size = x := ⟨_, rfl⟩
  rw [hx] at n0
  have N0 := Lib.hid n0; have HB := Lib.hid hbel; have HM := Lib.hid hm
  clear n0 hbel hm
  unfold Mono.V
  go_enter Try.func97, Try.ntmps97
  go_upto_region 1 with fail
  refine gen_worldA (fun W => Below w.heap.size w W ∧ W.heap[x]? = some (.cells m.enc.toArray 47 (0, 0))) ⟨HB.out, N0.out⟩ ?_
  rintro W ⟨hbW, g0⟩
  have HBW := Lib.hid hbW; have G0 := Lib.hid g0
  clear hbW g0 N0 HB hx
  go_wp2_with fail
  go_loop [3, 4] (fun s i => ∃ k : Nat, k ≤ 6 ∧ i = .int .i64 k ∧ s = .int .i64 (degK m k)) (fun _ i => 6 - (intOf i).toNat)
  case atStart => exact ⟨0, by omega, rfl, rfl⟩
  case round =>
    obtain ⟨k, hk, rfl, rfl⟩ := hrel
    obtain ⟨hd0, hd1⟩ := degK_range HM.out hk
    have hz0 : (0 : Int) ≤ (k : Int) := by omega
    by_cases hlt : k < 6
    · have hc := boxE G0.out hlt
      obtain ⟨hv0, hv1⟩ := E_at HM.out k
      have HS := Lib.hid (degK_succ m hlt)
      generalize m.E.getD k 0 = v at hc hv0 hv1 HS
      have hz1 : (k : Int) < 6 := by omega
      go_wp2_with fail
      go_round
      case rel => exact ⟨k + 1, by omega, by go_num, by rw [HS.out]⟩
      case measure => simp [intOf]; omega
    · obtain rfl : k = 6 := by omega
      have hE : degK m 6 = degF m := rfl
      simp only [hE, Int.cast_ofNat_Int] at *
      go_wp2_with fail
      go_ret
      exact ⟨rfl, HBW.out⟩

set_option maxHeartbeats 4000000 in
theorem above_any (w : World) (a b : Mono) (ha : a.wf) (hb : b.wf) : Calls Try.prog 98 #[a.V, b.V] w fun e w' => e = .returned (.int .i64 (cmpI a.E b.E)) ∧ Below w.heap.size w w' := by
  have n0 := oldBlock (World.alloc_heap_new w (.cells a.enc.toArray 47)) (.cells b.enc.toArray 47)
  have n1 := World.alloc_heap_new (w.alloc (.cells a.enc.toArray 47)) (.cells b.enc.toArray 47)
  have hbel : Below w.heap.size w ((w.alloc (.cells a.enc.toArray 47)).alloc (.cells b.enc.toArray 47)) := ((Below.refl _ _).alloc (Nat.le_refl _) _).alloc (by simp) _
  rw [show (w.alloc (.cells a.enc.toArray 47)).heap.size = w.heap.size + 1 from by simp] at n1
  obtain ⟨x, hx⟩ : ∃ x, w.heap.size = x := ⟨_, rfl⟩
  rw [hx] at n0 n1
  have N0 := Lib.hid n0; have N1 := Lib.hid n1; have HB := Lib.hid hbel; have HA := Lib.hid ha; have HBB := Lib.hid hb
  clear n0 n1 hbel ha hb
  unfold Mono.V
  go_enter Try.func98, Try.ntmps98
  go_upto_region 1 with fail
  refine gen_worldA (fun W => Below w.heap.size w W ∧ W.heap[x]? = some (.cells a.enc.toArray 47 (0, 0)) ∧ W.heap[x + 1]? = some (.cells b.enc.toArray 47 (0, 0))) ⟨HB.out, N0.out, N1.out⟩ ?_
  rintro W ⟨hbW, g0, g1⟩
  have HBW := Lib.hid hbW; have G0 := Lib.hid g0; have G1 := Lib.hid g1
  clear hbW g0 g1 N0 N1 HB hx
  go_wp2_with fail
  go_loopw [5] (fun i wr => ∃ k n : Nat, k ≤ 6 ∧ i = .int .i64 k ∧ cmpI a.E b.E = cmpI (a.E.drop k) (b.E.drop k) ∧ wr = W.drewN n) (fun i _ => 6 - (intOf i).toNat)
  case atStart => exact ⟨0, 0, by omega, rfl, rfl, rfl⟩
  case round =>
    obtain ⟨k, n, hk, rfl, he, rfl⟩ := hrel
    have hz0 : (0 : Int) ≤ (k : Int) := by omega
    by_cases hlt : k < 6
    · rw [cmpI_drop a b hlt] at he
      have hc := boxE G0.out hlt
      have hd := boxE G1.out hlt
      generalize a.E.getD k 0 = u at hc he
      generalize b.E.getD k 0 = v at hd he
      have hz1 : (k : Int) < 6 := by omega
      by_cases h1 : u < v
      · have HE := Lib.hid (he.trans (if_pos h1)); clear he
        have h1' : decide (v < u) = false := by simp; omega
        go_wp2_with fail
        go_quiet (fail)
        go_wp2_with fail
        go_quiet (fail)
        go_wp2_with fail
        go_ret
        exact ⟨ret_int HE.out.symm, ((HBW.out.trans (Below.drewN _ _)).trans (Below.drewN _ _)).trans (Below.drewN _ _)⟩
      · by_cases h2 : v < u
        · have HE := Lib.hid (he.trans ((if_neg h1).trans (if_pos h2))); clear he
          go_wp2_with fail
          go_quiet (fail)
          go_wp2_with fail
          go_ret
          exact ⟨ret_int HE.out.symm, (HBW.out.trans (Below.drewN _ _)).trans (Below.drewN _ _)⟩
        · have HE := Lib.hid (he.trans ((if_neg h1).trans (if_neg h2))); clear he
          have h1' : decide (u < v) = false := by simpa using h1
          have h2' : decide (v < u) = false := by simpa using h2
          go_wp2_with fail
          go_quiet (fail)
          go_wp2_with fail
          go_quiet (fail)
          go_wp2_with fail
          go_roundw
          case rel => exact ⟨k + 1, _, by omega, by go_num, HE.out, rfl⟩
          case measure => simp [intOf]; omega
    · obtain rfl : k = 6 := by omega
      have HE := Lib.hid he; clear he
      simp only [Int.cast_ofNat_Int] at *
      go_wp2_with fail
      go_ret
      exact ⟨ret_int (by rw [HE.out]; rfl), HBW.out.trans (Below.drewN _ _)⟩
end Go.Proofs.Ytmlfeocdcjhhaaa

namespace Go.Proofs.Ytmlfeocdcjhhaaa
set_option maxRecDepth 100000
open Go.RowKit
set_option linter.unusedVariables false
set_option linter.unusedSimpArgs false

/-- the first place from k on that p tells of, or -1 -/
def firstM (p : Mono → Bool) : Nat → List Mono → Int
  | _, [] => -1
  | k, x :: xs => if p x then k else firstM p (k + 1) xs
theorem firstM_step {p : Mono → Bool} {k : Nat} {xs : List Mono} (h : k < xs.length) : firstM p k (xs.drop k) = if p xs[k] then (k : Int) else firstM p (k + 1) (xs.drop (k + 1)) := by
  rw [List.drop_eq_getElem_cons h, firstM]
theorem firstM_nonneg {p : Mono → Bool} : ∀ (xs : List Mono) (k : Nat), decide (0 ≤ firstM p k xs) = xs.any p
  | [], k => by simp [firstM]
  | x :: xs, k => by
    rw [firstM]
    by_cases h : p x
    · simp [h]
    · simp [h, firstM_nonneg xs (k + 1)]

set_option maxHeartbeats 4000000 in
theorem indexFuncM (w : World) (a : Option Addr) (cap : Nat) (xs : List Mono) (g : FuncId) (p : Mono → Bool) (hg : ∀ args w, (callFunc g args).run Try.prog w = .ok (.enter g args) w) (hm : xs.length ≤ maxLen) (h : monoRep.Els w a xs)
    (hp : ∀ x, x.wf → ∀ w', Calls Try.prog g #[x.V] w' fun e w'' => e = .returned (.bool (p x)) ∧ Below w'.heap.size w' w'') :
    Calls Try.prog 152 #[.slice a xs.length cap, .func (.func g) #[] #[]] w fun e w' => e = .returned (.int .i64 (firstM p 0 xs)) ∧ Below w.heap.size w w' := by
  unfold maxLen at hm
  have HI := Lib.hid h; have HP := Lib.hid hp; clear h hp
  go_enter Try.func152, Try.ntmps152
  go_wp2
  go_loopw [8] (fun i wr => ∃ k : Nat, k ≤ xs.length ∧ i = .int .i64 k ∧ firstM p 0 xs = firstM p k (xs.drop k) ∧ Below w.heap.size w wr) (fun i _ => xs.length - (intOf i).toNat)
  case atStart => exact ⟨0, Nat.zero_le _, rfl, rfl, Below.refl _ _⟩
  case round =>
    obtain ⟨k, hk, rfl, hr, hbel⟩ := hrel
    by_cases hlt : k < xs.length
    · rw [firstM_step hlt] at hr
      obtain ⟨b, off, rfl, hw, x0, x1, x2, x3, x4, x5, x6⟩ := els_mono (HI.out.below monoRep hbel (Nat.le_refl _)) hlt
      have hq := HP.out xs[k] hw wr
      unfold Mono.V at hq
      have Hr := Lib.hid hr; clear hr
      cases hv : p xs[k] with
      | true =>
        rw [hv] at hq
        have HQ := Lib.hid hq; have Hv := Lib.hid hv; clear hq hv
        go_wp2_with (refine HQ.out.mono ?_; rintro e w' ⟨rfl, hb1⟩)
        go_ret
        exact ⟨ret_int (by rw [Hr.out, if_pos Hv.out]), bNext hb1 hbel⟩
      | false =>
        rw [hv] at hq
        have HQ := Lib.hid hq; have Hv := Lib.hid hv; clear hq hv
        go_wp2_with (refine HQ.out.mono ?_; rintro e w' ⟨rfl, hb1⟩)
        go_roundw
        case rel => exact ⟨k + 1, by omega, by go_num, by rw [Hr.out, if_neg (by rw [Hv.out]; simp)], bNext hb1 hbel⟩
        case measure => simp [intOf]; omega
    · have Hr := Lib.hid hr; clear hr
      go_wp2
      go_ret
      exact ⟨ret_int (by rw [Hr.out, List.drop_eq_nil_of_le (by omega)]; rfl), hbel⟩

theorem containsFuncM (w : World) (a : Option Addr) (cap : Nat) (xs : List Mono) (g : FuncId) (p : Mono → Bool) (hg : ∀ args w, (callFunc g args).run Try.prog w = .ok (.enter g args) w) (hm : xs.length ≤ maxLen) (h : monoRep.Els w a xs)
    (hp : ∀ x, x.wf → ∀ w', Calls Try.prog g #[x.V] w' fun e w'' => e = .returned (.bool (p x)) ∧ Below w'.heap.size w' w'') :
    Calls Try.prog 128 #[.slice a xs.length cap, .func (.func g) #[] #[]] w fun e w' => e = .returned (.bool (xs.any p)) ∧ Below w.heap.size w w' := by
  have hq := Lib.hid (indexFuncM w a cap xs g p hg hm h hp)
  clear hp h
  go_enter Try.func128, Try.ntmps128
  go_wp2_with (go_at_call 152; refine hq.out.mono ?_; rintro e w' ⟨rfl, hb1⟩)
  go_ret
  exact ⟨ret_bool (firstM_nonneg _ _), hb1⟩
end Go.Proofs.Ytmlfeocdcjhhaaa

namespace Go.Proofs.Ytmlfeocdcjhhaaa
set_option maxRecDepth 100000
open Go.RowKit
set_option linter.unusedVariables false
set_option linter.unusedSimpArgs false
attribute [local go_sem ↓] Go.wp_at_zero Go.wp_at_succ

set_option maxHeartbeats 8000000 in
theorem rright_any (w : World) (a : Option Addr) (c : Nat) (p : List Mono) (h : monoRep.Els w a p) (hm : p.length ≤ 9223372036854775807) :
    Calls Try.prog 58 #[.slice a p.length c] w fun e w' => e = .returned (.bool (polyB p)) ∧ Below w.heap.size w w' := by
  by_cases hbig : 48 < p.length
  · have t0 : decide ((48 : Int) < (p.length : Int)) = true := by simp; omega
    have HG := Lib.hid (polyB_big hbig)
    clear h
    go_enter Try.func58, Try.ntmps58
    go_wp2_with fail
    go_ret
    exact ⟨ret_bool HG.out.symm, Below.refl _ _⟩
  have t0 : decide ((48 : Int) < (p.length : Int)) = false := by simp; omega
  have hb48 : p.length ≤ 48 := by omega
  have HE := Lib.hid h; have HW := Lib.hid (wf_mono h)
  clear h hbig
  go_enter Try.func58, Try.ntmps58
  go_wp2_with fail
  clear t0
  go_loopw [3] (fun i wr => ∃ k : Nat, k ≤ p.length ∧ i = .int .i64 k ∧ (∀ j, j < k → fineAt p j = true) ∧ Below w.heap.size w wr) (fun i _ => p.length - (intOf i).toNat)
  case atStart => exact ⟨0, Nat.zero_le _, rfl, fun j h => absurd h (Nat.not_lt_zero j), Below.refl _ _⟩
  case round =>
    obtain ⟨k, hk, rfl, hall, hB⟩ := hrel
    have HALL := Lib.hid hall; have HB := Lib.hid hB
    clear hall hB
    by_cases hlt : k < p.length
    · obtain ⟨b, off, rfl, hw, x0, x1, x2, x3, x4, x5, x6⟩ := els_mono (HE.out.below monoRep HB.out (Nat.le_refl _)) hlt
      have hz0 : (0 : Int) ≤ (k : Int) := by omega
      have hz1 : (k : Int) < (p.length : Int) := by omega
      have hfine : fineAt p k = (smallB p[k] && (k == 0 || decide (cmpI p[k].E (p.getD (k - 1) zeroM).E < 0))) := by unfold fineAt; rw [getD_at hlt]
      obtain ⟨m, hmk⟩ : ∃ m, p[k] = m := ⟨_, rfl⟩
      rw [hmk] at hw hfine x0 x1 x2 x3 x4 x5 x6
      have hq1 := fun W' => degree_any W' m hw
      unfold Mono.V at hq1
      have hsmall : smallB m = (m.n != 0 && decide (m.n ≤ 16777216) && decide (-16777216 ≤ m.n) && decide (degF m ≤ 8)) := rfl
      obtain ⟨n, hn⟩ : ∃ n, m.n = n := ⟨_, rfl⟩
      obtain ⟨d, hd⟩ : ∃ d, degF m = d := ⟨_, rfl⟩
      rw [hn, hd] at hsmall
      rw [hn] at x0 hq1
      rw [hd] at hq1
      have HQ1 := Lib.hid hq1; have HSM := Lib.hid hsmall; have HF := Lib.hid hfine; have HWM := Lib.hid hw; have HMK := Lib.hid hmk; have HN := Lib.hid hn
      clear hq1 hsmall hfine hw hmk hd hn
      by_cases g0 : n = 0
      · have HR := Lib.hid (polyB_bad hlt (by rw [HF.out, HSM.out, g0]; simp))
        rw [g0] at x0
        clear g0
        go_wp2_with fail
        go_ret
        exact ⟨ret_bool HR.out.symm, HB.out⟩
      have g0' : (n == 0) = false := by simpa using g0
      by_cases g1 : 16777216 < n
      · have HR := Lib.hid (polyB_bad hlt (by rw [HF.out, HSM.out, decide_eq_false (by omega : ¬ n ≤ 16777216)]; simp))
        go_wp2_with fail
        go_ret
        exact ⟨ret_bool HR.out.symm, HB.out⟩
      have g1' : decide (16777216 < n) = false := by simpa using g1
      by_cases g2 : n < -16777216
      · have HR := Lib.hid (polyB_bad hlt (by rw [HF.out, HSM.out, decide_eq_false (by omega : ¬ -16777216 ≤ n)]; simp))
        go_wp2_with fail
        go_ret
        exact ⟨ret_bool HR.out.symm, HB.out⟩
      have g2' : decide (n < -16777216) = false := by simpa using g2
      by_cases g3 : 8 < d
      · have HR := Lib.hid (polyB_bad hlt (by rw [HF.out, HSM.out, decide_eq_false (by omega : ¬ d ≤ 8)]; simp))
        go_wp2_with fail
        refine (HQ1.out _).mono ?_
        rintro e w2 ⟨rfl, hb2⟩
        go_wp2_with fail
        go_ret
        exact ⟨ret_bool HR.out.symm, bNext hb2 HB.out⟩
      have g3' : decide (8 < d) = false := by simpa using g3
      have hsm : smallB m = true := by rw [HSM.out, decide_eq_true (by omega : n ≤ 16777216), decide_eq_true (by omega : -16777216 ≤ n), decide_eq_true (by omega : d ≤ 8)]; simp [g0]
      have hfine := HF.out
      rw [hsm] at hfine
      have HF2 := Lib.hid hfine
      clear hfine hsm HF HSM g0 g1 g2 g3
      go_wp2_with fail
      refine (HQ1.out _).mono ?_
      rintro e w2 ⟨rfl, hb2⟩
      have HB2 := Lib.hid (bNext hb2 HB.out)
      clear hb2 HB HQ1 x0 x1 x2 x3 x4 x5 x6 g0' g1' g2'
      go_upto_region 8 with fail
      clear g3'
      obtain ⟨b1, off1, eb1, -, x0, x1, x2, x3, x4, x5, x6⟩ := els_mono (HE.out.below monoRep HB2.out (Nat.le_refl _)) hlt
      cases eb1
      rw [HMK.out] at x0 x1 x2 x3 x4 x5 x6
      have f0 := cellBW x0; have f1 := cellBW x1; have f2 := cellBW x2; have f3 := cellBW x3; have f4 := cellBW x4; have f5 := cellBW x5; have f6 := cellBW x6
      by_cases hk0 : k = 0
      · subst hk0
        clear x0 x1 x2 x3 x4 x5 x6
        refine wp_region_below (by kernel_rfl) (by kernel_rfl) ?_
        repeat (go_big_quiet_step (fail))
        refine wpQuiet_nil ?_
        rintro _ ⟨⟨wq, hwq⟩, rfl⟩
        clear f0 f1 f2 f3 f4 f5 f6
        go_wp2_with fail
        go_roundw
        case rel => exact ⟨0 + 1, by omega, by go_num, fun j hj => by rw [show j = 0 from by omega, HF2.out]; rfl, bNext hwq HB2.out⟩
        case measure => simp [intOf]; omega
      · have hlt' : k - 1 < p.length := by omega
        clear x0 x1 x2 x3 x4 x5 x6
        obtain ⟨b', off', eb, hw', x0, x1, x2, x3, x4, x5, x6⟩ := els_mono (HE.out.below monoRep HB2.out (Nat.le_refl _)) hlt'
        cases eb
        have hfine := HF2.out
        rw [getD_at hlt'] at hfine
        obtain ⟨q, hqk⟩ : ∃ q, p[k - 1] = q := ⟨_, rfl⟩
        rw [hqk] at hfine hw' x0 x1 x2 x3 x4 x5 x6
        have hq2 := fun W' => above_any W' q m hw' HWM.out
        unfold Mono.V at hq2
        have h0 := cellBW x0; have h1 := cellBW x1; have h2 := cellBW x2; have h3 := cellBW x3; have h4 := cellBW x4; have h5 := cellBW x5; have h6 := cellBW x6
        have hkp : 0 < (k : Int) := by omega
        have hkn : 0 < k := by omega
        have hkt : ((k : Int) - 1).toNat = k - 1 := by omega
        have hkz : (0 : Int) ≤ (k : Int) - 1 := by omega
        have hkz2 : (k : Int) - 1 < (p.length : Int) := by omega
        have hkz3 : (k - 1) < p.length := by omega
        have hsw := cmpI_swap m.E q.E
        have hrg := cmpI_range q.E m.E
        rw [hsw] at hfine
        obtain ⟨cc, hcc⟩ : ∃ cc, cmpI q.E m.E = cc := ⟨_, rfl⟩
        rw [hcc] at hq2 hfine hrg
        have HQ2 := Lib.hid hq2
        clear hq2 hqk hcc x0 x1 x2 x3 x4 x5 x6 hw' hsw
        by_cases hneg : cc = 1
        · have HF : Hid (fineAt p k = true) := Lib.hid (by rw [hfine, hneg]; simp)
          clear hfine hrg
          subst hneg
          refine wp_region_below (by kernel_rfl) (by kernel_rfl) ?_
          repeat (go_big_quiet_step (refine callsBW (HQ2.out _)))
          refine wpQuiet_nil ?_
          rintro _ ⟨⟨wq, hwq⟩, rfl⟩
          clear f0 f1 f2 f3 f4 f5 f6 h0 h1 h2 h3 h4 h5 h6
          go_wp2_with fail
          go_roundw
          case rel => exact ⟨k + 1, by omega, by go_num, fun j hj => by
            by_cases e : j = k
            · rw [e]; exact HF.out
            · exact HALL.out j (by omega), bNext hwq HB2.out⟩
          case measure => simp [intOf]; omega
        · have hneg' : (cc == 1) = false := by simpa using hneg
          have HF : Hid (polyB p = false) := Lib.hid (polyB_bad hlt (by rw [hfine, decide_eq_false (by omega : ¬ -cc < 0)]; simp [hk0]))
          clear hfine hrg hneg
          refine wp_region_below (by kernel_rfl) (by kernel_rfl) ?_
          repeat (go_big_quiet_step (refine callsBW (HQ2.out _)))
          refine wpQuiet_nil ?_
          rintro _ ⟨⟨wq, hwq⟩, rfl⟩
          clear f0 f1 f2 f3 f4 f5 f6 h0 h1 h2 h3 h4 h5 h6
          go_wp2_with fail
          go_ret
          exact ⟨ret_bool HF.out.symm, bNext hwq HB2.out⟩
    · have HF := Lib.hid (polyB_good hb48 (fun j hj => HALL.out j (by omega)))
      go_wp2_with fail
      go_ret
      exact ⟨ret_bool HF.out.symm, HB.out⟩
end Go.Proofs.Ytmlfeocdcjhhaaa
