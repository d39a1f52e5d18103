import Derived.Test.YtmlfeocdcjhhaaaPH19
import Derived.Test.YtmlfeocdcjhhaaaPH7
namespace Go.Proofs.Ytmlfeocdcjhhaaa
set_option maxRecDepth 100000
open Go.RowKit
set_option linter.unusedVariables false
set_option linter.unusedSimpArgs false

structure Ctx (D : List Int) (mem : List (List Int)) (ix : List Int) : Prop where
  dims : dimsB D = true
  mem : ∀ b ∈ mem, ∀ x ∈ b, In64 x
  ix : ∀ x ∈ ix, In64 x
theorem mulO_nn {d : Int} (hd : 0 ≤ d) : ∀ (e : Nat) (n v : Int), 0 ≤ n → mulO d e n = some v → 0 ≤ v
  | 0, n, v, hn, h => by cases h; exact hn
  | e + 1, n, v, hn, h => by
    rw [mulO] at h
    split at h
    · cases h
    · exact mulO_nn hd e _ v (Int.mul_nonneg hn hd) h
theorem dims_nn {D : List Int} (h : dimsB D = true) (k : Nat) : 0 ≤ dimAt D k := by
  unfold dimsB at h
  simp only [Bool.and_eq_true, decide_eq_true_eq, List.all_eq_true] at h
  unfold dimAt
  rw [List.getD_eq_getElem?_getD]
  cases e : D[k]? with
  | none => exact Int.le_refl _
  | some x => exact (h.2 x (List.mem_of_getElem? e)).1
theorem prodK_nn {m : Mono} {D : List Int} (hD : dimsB D = true) : ∀ (k : Nat) (v : Int), prodK m D k = some v → 0 ≤ v
  | 0, v, h => by cases h; omega
  | k + 1, v, h => by
    rw [prodK] at h
    cases e : prodK m D k with
    | none => rw [e] at h; cases h
    | some n => rw [e] at h; exact mulO_nn (dims_nn hD k) _ n v (prodK_nn hD k n e) h
theorem valO_nn {m : Mono} {D : List Int} (hD : dimsB D = true) {v : Int} (h : valO m D = some v) : 0 ≤ v := by
  unfold valO at h
  split at h
  · cases h; exact Int.le_refl _
  · exact prodK_nn hD 6 v h
theorem evalK_in (D : List Int) : ∀ (p : List Mono) (sum size : Int), (∀ m ∈ p, ∀ n, valO m D = some n → 0 ≤ n) → -size ≤ sum → sum ≤ size → 0 ≤ size → size ≤ 4611686018427387904 → In64 (evalK D p sum size).1
  | [], sum, size, _, h1, h2, h3, h4 => by unfold evalK In64; dsimp only; omega
  | m :: r, sum, size, hp, h1, h2, h3, h4 => by
    rw [evalK]
    cases hv : valO m D with
    | none => exact (⟨by decide, by decide⟩ : In64 0)
    | some n =>
      have hn := hp m List.mem_cons_self n hv
      dsimp only
      by_cases hb : 4611686018427387904 - size < n
      · rw [if_pos hb]; exact (⟨by decide, by decide⟩ : In64 0)
      · rw [if_neg hb]
        refine evalK_in D r _ _ (fun m' hm => hp m' (List.mem_cons_of_mem _ hm)) ?_ ?_ (by omega) (by omega)
        · split <;> omega
        · split <;> omega
section
variable {D : List Int} {mem : List (List Int)} {ix : List Int}
/-- it leaves one number, whatever lies below -/
def Ev (D : List Int) (mem : List (List Int)) (ix : List Int) (x : List Cop) (r : Ex Int) : Prop := (∀ s, runM D mem ix x s = r.map (· :: s)) ∧ ∀ v, r = .ok v → In64 v
theorem run_one (o : Cop) (s : List Int) : runM D mem ix [o] s = opM D mem ix o s := by
  rw [runM]
  cases opM D mem ix o s <;> rfl
theorem ev_num {n : Int} (h : In64 n) : Ev D mem ix [numC n] (.ok n) := ⟨fun s => by rw [run_one]; rfl, fun v e => by cases e; exact h⟩
theorem knownC_one (o : Cop) : knownC [o] = if o.how = 1 then some o.n else none := rfl
theorem ev_known {x : List Cop} {r : Ex Int} {n : Int} (hx : Ev D mem ix x r) (h : knownC x = some n) : r = .ok n := by
  obtain ⟨o, rfl⟩ := List.length_eq_one_iff.1 (known_len (x := x) (by rw [h]; rfl))
  · rw [knownC_one] at h
    by_cases h1 : o.how = 1
    · rw [if_pos h1] at h
      have h2 := hx.1 []
      rw [run_one] at h2
      unfold opM at h2
      rw [if_pos h1] at h2
      cases h
      cases r with
      | error e => cases h2
      | ok v => simp only [Except.map, Except.ok.injEq, List.cons.injEq, and_true] at h2; rw [h2]
    · rw [if_neg h1] at h; cases h
theorem only_known {x : List Cop} {n : Int} (h : onlyC x n = true) : knownC x = some n := by unfold onlyC at h; simpa using h
theorem ev_mon {x : List Cop} {r : Ex Int} (hx : Ev D mem ix x r) {o : Cop} (h5 : o.how = 5) : Ev D mem ix (x ++ [o]) (r.bind fun a => mustR (monadF o.fn a)) := by
  refine ⟨fun s => ?_, fun v e => ?_⟩
  · rw [runM_append, hx.1]
    cases r with
    | error e => rfl
    | ok a =>
      show runM D mem ix [o] (a :: s) = _
      rw [run_one]
      unfold opM
      rw [if_neg (by omega), if_neg (by omega), if_neg (by omega), if_neg (by omega), if_pos h5]
      rfl
  · cases r with
    | error e' => cases e
    | ok a =>
      have ha := hx.2 a rfl
      have e : mustR (monadF o.fn a) = .ok v := e
      unfold mustR at e
      split at e
      · cases e; exact monad_in ha
      · cases e
theorem ev_dy {x y : List Cop} {r q : Ex Int} (hx : Ev D mem ix x r) (hy : Ev D mem ix y q) {o : Cop} (h6 : o.how = 6) : Ev D mem ix (x ++ y ++ [o]) (r.bind fun a => q.bind fun b => mustR (dyadF o.fn a b)) := by
  refine ⟨fun s => ?_, fun v e => ?_⟩
  · rw [runM_append, runM_append, hx.1]
    cases r with
    | error e => rfl
    | ok a =>
      show (runM D mem ix y (a :: s)).bind _ = _
      rw [hy.1]
      cases q with
      | error e => rfl
      | ok b =>
        show runM D mem ix [o] (b :: a :: s) = _
        rw [run_one]
        unfold opM
        rw [if_neg (by omega), if_neg (by omega), if_neg (by omega), if_neg (by omega), if_neg (by omega), if_pos h6]
        rfl
  · cases r with
    | error e' => cases e
    | ok a =>
      cases q with
      | error e' => cases e
      | ok b =>
        have ha := hx.2 a rfl; have hb := hy.2 b rfl
        have e : mustR (dyadF o.fn a b) = .ok v := e
        unfold mustR at e
        split at e
        · cases e; exact dyad_in ha hb
        · cases e
theorem getD_in {l : List Int} (h : ∀ x ∈ l, In64 x) (k : Nat) : In64 (l.getD k 0) := by
  rw [List.getD_eq_getElem?_getD]
  cases e : l[k]? with
  | none => exact In64.zero
  | some x => exact h x (List.mem_of_getElem? e)
theorem mem_in (C : Ctx D mem ix) (b : Nat) : ∀ x ∈ mem.getD b [], In64 x := by
  rw [List.getD_eq_getElem?_getD]
  cases e : mem[b]? with
  | none => intro x hx; cases hx
  | some l => exact C.mem l (List.mem_of_getElem? e)
theorem ev_load (C : Ctx D mem ix) {x : List Cop} {r : Ex Int} (hx : Ev D mem ix x r) {o : Cop} (h4 : o.how = 4) : Ev D mem ix (x ++ [o]) (r.bind fun a => cellR mem o.k a) := by
  refine ⟨fun s => ?_, fun v e => ?_⟩
  · rw [runM_append, hx.1]
    cases r with
    | error e => rfl
    | ok a =>
      show runM D mem ix [o] (a :: s) = _
      rw [run_one]
      unfold opM
      rw [if_neg (by omega), if_neg (by omega), if_neg (by omega), if_pos h4]
      rfl
  · cases r with
    | error e' => cases e
    | ok a =>
      have e : cellR mem o.k a = .ok v := e
      unfold cellR at e
      split at e
      · cases e
      · cases e; exact getD_in (mem_in C _) _
/-- numbers, indexes -/
theorem ev_zero (C : Ctx D mem ix) {o : Cop} (ho : I64 o.n) (h : o.how = 1 ∨ o.how = 3) : Ev D mem ix [o] (.ok (if o.how = 1 then o.n else ix.getD o.k.toNat 0)) := by
  rcases h with h | h
  · exact ⟨fun s => by rw [run_one]; unfold opM; rw [if_pos h, if_pos h]; rfl, fun v e => by rw [if_pos h] at e; cases e; exact ho⟩
  · exact ⟨fun s => by rw [run_one]; unfold opM; rw [if_neg (by omega), if_neg (by omega), if_pos h, if_neg (by omega)]; rfl, fun v e => by rw [if_neg (by omega)] at e; cases e; exact getD_in C.ix _⟩
theorem evalS_in (hD : dimsB D = true) (p : List Mono) : In64 (evalS p D).1 := by
  unfold evalS
  by_cases hp : polyB p = true
  · rw [if_pos hp, if_pos hD]
    exact evalK_in D p 0 0 (fun m _ n h => valO_nn hD h) (by decide) (by decide) (by decide) (by decide)
  · rw [if_neg hp]; exact (⟨by decide, by decide⟩ : In64 0)
theorem ev_value (C : Ctx D mem ix) {o : Cop} (h : o.how = 2) : Ev D mem ix [o] (valR D o.p 121) := by
  refine ⟨fun s => by rw [run_one]; unfold opM; rw [if_neg (by omega), if_pos h], fun v e => ?_⟩
  unfold valR at e
  split at e
  · cases e; exact evalS_in C.dims _
  · cases e
theorem valR_nil (hD : dimsB D = true) (e : Int) : valR D [] e = .ok 0 := by
  have he : evalS [] D = (0, 0) := by unfold evalS; rw [if_pos (show polyB [] = true from rfl), if_pos hD]; rfl
  unfold valR
  rw [he]
  rfl
theorem flat_ex {m : Mono} (h : flatE m = true) (k : Nat) : m.ex k = 0 := by
  unfold flatE at h
  have h := eq_of_beq h
  unfold Mono.ex
  rw [h]
  match k with
  | 0 => rfl | 1 => rfl | 2 => rfl | 3 => rfl | 4 => rfl | 5 => rfl
  | k + 6 => rfl
theorem valR_flat (hD : dimsB D = true) {m : Mono} (h : flatE m = true) (hp : polyB [m] = true) (hn : -16777216 ≤ m.n ∧ m.n ≤ 16777216) (e : Int) : valR D [m] e = .ok m.n := by
  have hv : valO m D = some (max m.n (-m.n)) := by
    rw [valO_prod (fun k _ => by unfold zeroAt; rw [flat_ex h]; rfl)]
    simp [prodK, flat_ex h, mulO]
  have he : evalS [m] D = (m.n, 0) := by
    unfold evalS
    rw [if_pos hp, if_pos hD, evalK, hv]
    dsimp only
    rw [if_neg (by omega), evalK]
    congr 1
    split <;> omega
  unfold valR
  rw [he]
  rfl
theorem poly_n {m : Mono} (hp : polyB [m] = true) : -16777216 ≤ m.n ∧ m.n ≤ 16777216 := by
  unfold polyB at hp
  simp only [Bool.and_eq_true, decide_eq_true_eq, List.all_eq_true] at hp
  have h := hp.2 0 (by simp)
  unfold fineAt smallB at h
  simp at h
  omega
/-- rule 1 -/
theorem seg_value (C : Ctx D mem ix) {o : Cop} (h : o.how = 2) (hp : polyB o.p = true) (s : List Int) : runM D mem ix [o] s = runM D mem ix (valueC o) s := by
  unfold valueC
  split
  · rename_i e
    rw [(ev_value C h).1, e, valR_nil C.dims, (ev_num (n := 0) In64.zero).1]
  · rename_i m e
    rw [e] at hp
    split
    · rename_i hf
      have hn := poly_n hp
      rw [(ev_value C h).1, e, valR_flat C.dims hf hp hn, (ev_num (n := m.n) (by unfold In64; omega)).1]
    · rfl
  · rfl
theorem ev_valueC (C : Ctx D mem ix) {o : Cop} (h : o.how = 2) (hp : polyB o.p = true) : Ev D mem ix (valueC o) (valR D o.p 121) := ⟨fun s => by rw [← seg_value C h hp]; exact (ev_value C h).1 s, (ev_value C h).2⟩
/-- rule 4 -/
theorem monad_same {f a : Int} (h : f = 1 ∨ f = 6 ∨ f = 7) : monadF f a = (a, 0) := by rcases h with rfl | rfl | rfl <;> rfl
theorem seg_mon {x : List Cop} {r : Ex Int} (hx : Ev D mem ix x r) {o : Cop} (h5 : o.how = 5) (s : List Int) : runM D mem ix (x ++ [o]) s = runM D mem ix (monadC x o) s := by
  unfold monadC
  by_cases hf : o.fn = 1 ∨ o.fn = 6 ∨ o.fn = 7
  · rw [if_pos hf, (ev_mon hx h5).1, hx.1]
    cases r with
    | error e => rfl
    | ok a => show (mustR (monadF o.fn a)).map _ = _; rw [monad_same hf]; rfl
  · rw [if_neg hf]
    unfold oneC
    cases hk : knownC x with
    | none => rfl
    | some a =>
      dsimp only
      by_cases he : (monadF o.fn a).2 = 0
      · rw [if_pos he]
        dsimp only
        rw [(ev_mon hx h5).1, ev_known hx hk]
        show (mustR (monadF o.fn a)).map _ = _
        unfold mustR
        rw [if_pos he, run_one]
        rfl
      · rw [if_neg he]
theorem ev_monC {x : List Cop} {r : Ex Int} (hx : Ev D mem ix x r) {o : Cop} (h5 : o.how = 5) : Ev D mem ix (monadC x o) (r.bind fun a => mustR (monadF o.fn a)) := ⟨fun s => by rw [← seg_mon hx h5]; exact (ev_mon hx h5).1 s, (ev_mon hx h5).2⟩
/-- rule 5 -/
theorem dyad_y {f a b : Int} (hb : In64 b) (h : (f = 1 ∧ a = 0) ∨ (f = 3 ∧ a = 1)) : dyadF f a b = (b, 0) := by
  rcases h with ⟨rfl, rfl⟩ | ⟨rfl, rfl⟩
  · show (wrap64 (0 + b), (0 : Int)) = _; rw [Int.zero_add, wrap_id hb]
  · show (wrap64 (1 * b), (0 : Int)) = _; rw [Int.one_mul, wrap_id hb]
theorem dyad_x {f a b : Int} (ha : In64 a) (h : ((f = 1 ∨ f = 2) ∧ b = 0) ∨ ((f = 3 ∨ f = 4 ∨ f = 17) ∧ b = 1)) : dyadF f a b = (a, 0) := by
  rcases h with ⟨rfl | rfl, rfl⟩ | ⟨rfl | rfl | rfl, rfl⟩
  · show (wrap64 (a + 0), (0 : Int)) = _; rw [Int.add_zero, wrap_id ha]
  · show (wrap64 (a - 0), (0 : Int)) = _; rw [Int.sub_zero, wrap_id ha]
  · show (wrap64 (a * 1), (0 : Int)) = _; rw [Int.mul_one, wrap_id ha]
  · show (wrap64 (a.fdiv 1), (0 : Int)) = _; rw [Int.fdiv_one, wrap_id ha]
  · show (wrap64 (a ^ 1), (0 : Int)) = _; rw [Int.pow_one, wrap_id ha]
theorem dyad_z {a b : Int} (h : a = 0 ∨ b = 0) : dyadF 3 a b = (0, 0) := by
  show (wrap64 (a * b), (0 : Int)) = _
  rcases h with rfl | rfl
  · rw [Int.zero_mul, wrap_id In64.zero]
  · rw [Int.mul_zero, wrap_id In64.zero]
theorem totO_of {l : List Cop} (h : totS l = true) : ∀ o ∈ l, totO o = false := fun o ho => by
  unfold totS at h
  simp only [Bool.not_eq_true', List.any_eq_false] at h
  simpa using h o ho
theorem monad_total {f a : Int} (h : totalB f false = true) : (monadF f a).2 = 0 := by
  unfold totalB at h
  split at h
  · cases h
  · rename_i hn
    unfold monadF
    rw [if_pos h]
    split
    · rfl
    split
    · rfl
    split
    · omega
    split
    · rfl
    split
    · omega
    · rfl
theorem dyad_total {f a b : Int} (h : totalB f true = true) : (dyadF f a b).2 = 0 := by
  unfold totalB at h
  split at h
  · cases h
  · rename_i hn
    unfold dyadF
    rw [if_pos h]
    have : refusesB f a b = false := by
      unfold refusesB
      rw [if_neg (by omega), if_neg (by omega), if_neg (by omega)]
    rw [this]
    rfl
/-- harmless operations go on with any stack -/
theorem harm_run : ∀ (l : List Cop) (s : List Int), harmC l = true → ∃ s', runM D mem ix l s = .ok s'
  | [], s, _ => ⟨s, rfl⟩
  | o :: l, s, h => by
    unfold harmC at h
    simp only [Bool.and_eq_true, Bool.not_eq_true', List.any_eq_false, List.mem_cons, forall_eq_or_imp] at h
    have ht := totO_of h.1
    have h1 : ∃ s', opM D mem ix o s = .ok s' := by
      have hr := h.2.1
      unfold reachC at hr
      have hr : o.how ≠ 2 ∧ o.how ≠ 4 := by simpa using hr
      have hto := ht o List.mem_cons_self
      unfold opM
      by_cases e1 : o.how = 1
      · rw [if_pos e1]; exact ⟨_, rfl⟩
      rw [if_neg e1, if_neg hr.1]
      by_cases e3 : o.how = 3
      · rw [if_pos e3]; exact ⟨_, rfl⟩
      rw [if_neg e3, if_neg hr.2]
      by_cases e5 : o.how = 5
      · rw [if_pos e5]
        have : totalB o.fn false = true := by
          unfold totO at hto
          rw [e5] at hto
          simpa using hto
        match s with
        | [] => exact ⟨_, rfl⟩
        | a :: r => exact ⟨(monadF o.fn a).1 :: r, by dsimp only; unfold mustR; rw [if_pos (monad_total this)]; rfl⟩
      rw [if_neg e5]
      by_cases e6 : o.how = 6
      · rw [if_pos e6]
        have : totalB o.fn true = true := by
          unfold totO at hto
          rw [e6] at hto
          simpa using hto
        match s with
        | [] => exact ⟨_, rfl⟩
        | [a] => exact ⟨_, rfl⟩
        | b :: a :: r => exact ⟨(dyadF o.fn a b).1 :: r, by dsimp only; unfold mustR; rw [if_pos (dyad_total this)]; rfl⟩
      · rw [if_neg e6]; exact ⟨_, rfl⟩
    obtain ⟨s1, h1⟩ := h1
    have hh : harmC l = true := by
      unfold harmC totS
      simp only [Bool.and_eq_true, Bool.not_eq_true', List.any_eq_false]
      exact ⟨fun x hx => by rw [ht x (List.mem_cons_of_mem _ hx)]; decide, fun x hx => by simpa using h.2.2 x hx⟩
    obtain ⟨s2, h2⟩ := harm_run l s1 hh
    exact ⟨s2, by rw [runM, h1]; exact h2⟩
theorem ev_harm {x : List Cop} {r : Ex Int} (hx : Ev D mem ix x r) (h : harmC x = true) : ∃ v, r = .ok v := by
  obtain ⟨s', hs⟩ := harm_run (D := D) (mem := mem) (ix := ix) x [] h
  rw [hx.1] at hs
  cases r with
  | error e => cases hs
  | ok v => exact ⟨v, rfl⟩
theorem seg_dy {x y : List Cop} {r q : Ex Int} (hx : Ev D mem ix x r) (hy : Ev D mem ix y q) {o : Cop} (h6 : o.how = 6) (s : List Int) : runM D mem ix (x ++ y ++ [o]) s = runM D mem ix (dyadC x y o) s := by
  have hrun := (ev_dy hx hy h6).1 s
  unfold dyadC
  cases ht : twoC o.fn x y with
  | some n =>
    dsimp only
    unfold twoC at ht
    cases hk : knownC x with
    | none => rw [hk] at ht; cases ht
    | some a =>
      rw [hk] at ht
      cases hk2 : knownC y with
      | none => rw [hk2] at ht; cases ht
      | some b =>
        rw [hk2] at ht
        dsimp only at ht
        split at ht
        · rename_i he
          cases ht
          rw [hrun, ev_known hx hk, ev_known hy hk2]
          show (mustR (dyadF o.fn a b)).map _ = _
          unfold mustR
          rw [if_pos he, run_one]
          rfl
        · cases ht
  | none =>
    dsimp only
    by_cases hY : ruleY o.fn x = true
    · rw [if_pos hY, hrun, hy.1]
      unfold ruleY at hY
      simp only [Bool.or_eq_true, Bool.and_eq_true, beq_iff_eq] at hY
      have ha : ∃ a, r = .ok a ∧ ((o.fn = 1 ∧ a = 0) ∨ (o.fn = 3 ∧ a = 1)) := by
        rcases hY with ⟨h1, h2⟩ | ⟨h1, h2⟩
        · exact ⟨0, ev_known hx (only_known h2), .inl ⟨h1, rfl⟩⟩
        · exact ⟨1, ev_known hx (only_known h2), .inr ⟨h1, rfl⟩⟩
      obtain ⟨a, rfl, ha⟩ := ha
      cases q with
      | error e => rfl
      | ok b =>
        show (mustR (dyadF o.fn a b)).map _ = _
        rw [dyad_y (hy.2 b rfl) ha]
        rfl
    rw [if_neg hY]
    by_cases hX : ruleX o.fn y = true
    · rw [if_pos hX, hrun, hx.1]
      unfold ruleX at hX
      simp only [Bool.or_eq_true, Bool.and_eq_true, beq_iff_eq] at hX
      have hb : ∃ b, q = .ok b ∧ (((o.fn = 1 ∨ o.fn = 2) ∧ b = 0) ∨ ((o.fn = 3 ∨ o.fn = 4 ∨ o.fn = 17) ∧ b = 1)) := by
        rcases hX with ⟨h1, h2⟩ | ⟨h1, h2⟩
        · exact ⟨0, ev_known hy (only_known h2), .inl ⟨h1, rfl⟩⟩
        · exact ⟨1, ev_known hy (only_known h2), .inr ⟨by omega, rfl⟩⟩
      obtain ⟨b, rfl, hb⟩ := hb
      cases r with
      | error e => rfl
      | ok a =>
        show (mustR (dyadF o.fn a b)).map _ = _
        rw [dyad_x (hx.2 a rfl) hb]
        rfl
    rw [if_neg hX]
    by_cases hZ : ruleZ o.fn x y = true
    · rw [if_pos hZ, hrun, (ev_num (D := D) (mem := mem) (ix := ix) In64.zero).1]
      unfold ruleZ at hZ
      simp only [Bool.or_eq_true, Bool.and_eq_true, beq_iff_eq] at hZ
      obtain ⟨h3, hZ⟩ := hZ
      have hab : ∃ a b, r = .ok a ∧ q = .ok b ∧ (a = 0 ∨ b = 0) := by
        rcases hZ with ⟨h1, h2⟩ | ⟨h1, h2⟩
        · obtain ⟨v, hv⟩ := ev_harm hy h2
          exact ⟨0, v, ev_known hx (only_known h1), hv, .inl rfl⟩
        · obtain ⟨v, hv⟩ := ev_harm hx h2
          exact ⟨v, 0, hv, ev_known hy (only_known h1), .inr rfl⟩
      obtain ⟨a, b, rfl, rfl, hab⟩ := hab
      show (mustR (dyadF o.fn a b)).map _ = _
      rw [h3, dyad_z hab]
      rfl
    · rw [if_neg hZ]
theorem ev_dyC {x y : List Cop} {r q : Ex Int} (hx : Ev D mem ix x r) (hy : Ev D mem ix y q) {o : Cop} (h6 : o.how = 6) : Ev D mem ix (dyadC x y o) (r.bind fun a => q.bind fun b => mustR (dyadF o.fn a b)) := ⟨fun s => by rw [← seg_dy hx hy h6]; exact (ev_dy hx hy h6).1 s, (ev_dy hx hy h6).2⟩
/-- operations that may be run -/
structure OpR (o : Cop) : Prop where
  n : I64 o.n
  p : o.how = 2 → polyB o.p = true
theorem takes_how {o : Cop} (h : 0 ≤ takesI o.how) : o.how = 1 ∨ o.how = 2 ∨ o.how = 3 ∨ o.how = 4 ∨ o.how = 5 ∨ o.how = 6 := by
  unfold takesI at h
  split at h
  · omega
  split at h
  · omega
  split at h
  · omega
  · omega
/-- the lists that were left, one behind the other, do the same -/
theorem stack_run (C : Ctx D mem ix) : ∀ l : List Cop, ∀ n m : Int, runK l 0 0 = some (n, m) → (∀ o ∈ l, OpR o) → runM D mem ix l [] = runM D mem ix (stackC l).flatten [] ∧ ((stackC l).length : Int) = n ∧ ∀ x ∈ stackC l, ∃ r, Ev D mem ix x r := by
  intro l
  induction l using snoc_indC with
  | h0 =>
    intro n m h _
    cases h
    exact ⟨rfl, rfl, fun x hx => by cases hx⟩
  | h1 l o ih =>
    intro n m h hop
    rw [runK_append] at h
    cases hr : runK l 0 0 with
    | none => rw [hr] at h; cases h
    | some p =>
      obtain ⟨n0, m0⟩ := p
      rw [hr] at h
      have h : runK [o] n0 m0 = some (n, m) := h
      obtain ⟨h1, hl, h2⟩ := ih n0 m0 hr (fun x hx => hop x (List.mem_append_left _ hx))
      have ho := hop o (List.mem_append_right _ List.mem_cons_self)
      rw [runK] at h
      by_cases hc : takesI o.how < 0 ∨ n0 < takesI o.how
      · rw [if_pos hc] at h; cases h
      rw [if_neg hc] at h
      rw [runK] at h
      have hn : n = n0 + (1 - takesI o.how) := by cases h; rfl
      rw [stackC_snoc, runM_append, h1, ← runM_append]
      generalize stackC l = st at h2 hl
      have hpush : ∀ (z : List Cop) (r : Ex Int), (∀ s, runM D mem ix [o] s = runM D mem ix z s) → Ev D mem ix z r → takesI o.how = 0 → stepC st o = st ++ [z] → runM D mem ix (st.flatten ++ [o]) [] = runM D mem ix (stepC st o).flatten [] ∧ ((stepC st o).length : Int) = n ∧ ∀ x ∈ stepC st o, ∃ r, Ev D mem ix x r := fun z r hz he ht hs => by
        rw [hs]
        refine ⟨?_, by simp; omega, fun x hx => ?_⟩
        · rw [List.flatten_append, runM_append, runM_append]
          congr 1
          funext s
          simp [hz]
        · rcases List.mem_append.1 hx with hx | hx
          · exact h2 x hx
          · rw [List.mem_singleton.1 hx]; exact ⟨r, he⟩
      rcases takes_how (o := o) (by omega) with e | e | e | e | e | e
      · exact hpush [o] _ (fun _ => rfl) (ev_zero C ho.n (.inl e)) (by rw [e]; rfl) (step_else (by omega) (by omega) (by omega) (by omega) st)
      · exact hpush (valueC o) _ (fun s => seg_value C e (ho.p e) s) (ev_valueC C e (ho.p e)) (by rw [e]; rfl) (step_val e st)
      · exact hpush [o] _ (fun _ => rfl) (ev_zero C ho.n (.inr e)) (by rw [e]; rfl) (step_else (by omega) (by omega) (by omega) (by omega) st)
      all_goals have ht : takesI o.how = 1 ∨ takesI o.how = 2 := by (rw [e]; first | exact .inl rfl | exact .inr rfl)
      · have ht : takesI o.how = 1 := by rw [e]; rfl
        obtain ⟨t, x, rfl⟩ := snoc_of_pos (s := st) (by omega)
        obtain ⟨r, hx⟩ := h2 x (by simp)
        rw [step_load e]
        refine ⟨by simp, by simp at hl ⊢; omega, fun y hy => ?_⟩
        rcases List.mem_append.1 hy with hy | hy
        · exact h2 y (List.mem_append_left _ hy)
        · rw [List.mem_singleton.1 hy]; exact ⟨_, ev_load C hx e⟩
      · have ht : takesI o.how = 1 := by rw [e]; rfl
        obtain ⟨t, x, rfl⟩ := snoc_of_pos (s := st) (by omega)
        obtain ⟨r, hx⟩ := h2 x (by simp)
        rw [step_mon e]
        refine ⟨?_, by simp at hl ⊢; omega, fun y hy => ?_⟩
        · rw [List.flatten_append, List.flatten_append, List.append_assoc, runM_append, runM_append]
          congr 1
          funext s
          simpa using seg_mon hx e s
        · rcases List.mem_append.1 hy with hy | hy
          · exact h2 y (List.mem_append_left _ hy)
          · rw [List.mem_singleton.1 hy]; exact ⟨_, ev_monC hx e⟩
      · have ht : takesI o.how = 2 := by rw [e]; rfl
        obtain ⟨t1, y, rfl⟩ := snoc_of_pos (s := st) (by omega)
        obtain ⟨t, x, rfl⟩ := snoc_of_pos (s := t1) (by simp at hl; omega)
        obtain ⟨r, hx⟩ := h2 x (by simp)
        obtain ⟨q, hy⟩ := h2 y (by simp)
        have hss : (t ++ [x]) ++ [y] = t ++ [x, y] := by simp
        rw [hss, step_dy e]
        refine ⟨?_, by simp at hl ⊢; omega, fun z hz => ?_⟩
        · rw [List.flatten_append, List.flatten_append, List.append_assoc, runM_append, runM_append]
          congr 1
          funext s
          simpa using seg_dy hx hy e s
        · rcases List.mem_append.1 hz with hz | hz
          · exact h2 z (by rw [List.append_assoc]; exact List.mem_append_left _ hz)
          · rw [List.mem_singleton.1 hz]; exact ⟨_, ev_dyC hx hy e⟩
/-- what is simplified leaves the same -/
theorem simple_run (C : Ctx D mem ix) {l : List Cop} (h : 0 ≤ depthI l) (hop : ∀ o ∈ l, OpR o) : opsM D mem ix (simpleC l) = opsM D mem ix l := by
  obtain ⟨hr, -, -⟩ := depth_run h
  obtain ⟨h1, -, -⟩ := stack_run C l _ _ hr hop
  rw [(simple_facts h).1] at h1
  unfold opsM
  rw [h1]
  simp
/-- and a number -/
theorem ops_in (C : Ctx D mem ix) {l : List Cop} (h : 0 ≤ depthI l) (hop : ∀ o ∈ l, OpR o) {v : Int} (hv : opsM D mem ix l = .ok v) : In64 v := by
  obtain ⟨hr, -, -⟩ := depth_run h
  obtain ⟨h1, -, h2⟩ := stack_run C l _ _ hr hop
  rw [(simple_facts h).1] at h1 h2
  obtain ⟨r, hx⟩ := h2 _ List.mem_cons_self
  unfold opsM at hv
  rw [h1] at hv
  simp only [List.flatten_cons, List.flatten_nil, List.append_nil] at hv
  rw [hx.1] at hv
  cases r with
  | error e => cases hv
  | ok a => cases hv; exact hx.2 a rfl
end
end Go.Proofs.Ytmlfeocdcjhhaaa

namespace Go.Proofs.Ytmlfeocdcjhhaaa
set_option maxRecDepth 100000
open Go.RowKit
set_option linter.unusedVariables false
set_option linter.unusedSimpArgs false

theorem evalK_nn (D : List Int) (hD : dimsB D = true) : ∀ (p : List Mono) (sum size : Int), (∀ m ∈ p, ¬ m.n < 0) → 0 ≤ sum → 0 ≤ (evalK D p sum size).1
  | [], sum, size, _, h => h
  | m :: r, sum, size, hp, h => by
    rw [evalK]
    cases hv : valO m D with
    | none => exact Int.le_refl _
    | some n =>
      have hn := valO_nn hD hv
      dsimp only
      by_cases hb : 4611686018427387904 - size < n
      · rw [if_pos hb]; exact Int.le_refl _
      · rw [if_neg hb, if_neg (hp m List.mem_cons_self)]
        exact evalK_nn D hD r _ _ (fun m' hm => hp m' (List.mem_cons_of_mem _ hm)) (by omega)
theorem evalS_nn {D : List Int} (hD : dimsB D = true) {p : List Mono} (h : growsB p = true) : 0 ≤ (evalS p D).1 := by
  unfold growsB at h
  simp only [Bool.and_eq_true, Bool.not_eq_true', List.any_eq_false, decide_eq_true_eq] at h
  unfold evalS
  rw [if_pos h.1, if_pos hD]
  exact evalK_nn D hD p 0 0 h.2 (Int.le_refl _)
theorem valR_nn {D : List Int} (hD : dimsB D = true) {p : List Mono} (h : growsB p = true) {e k : Int} (hk : valR D p e = .ok k) : 0 ≤ k := by
  unfold valR at hk
  split at hk
  · cases hk; exact evalS_nn hD h
  · cases hk
theorem count_err {D : List Int} {fold : Bool} : ∀ {l : List (List Mono)} {n n' e : Int}, countR D fold l n = .error e → countR D fold l n' = .error e
  | [], n, n', e, h => by cases h
  | p :: r, n, n', e, h => by
    rw [countR] at h ⊢
    cases hv : valR D p 122 with
    | error e' => rw [hv] at h; exact h
    | ok k =>
      rw [hv] at h
      show (if 65536 < k then _ else _) = _
      have h : (if 65536 < k then _ else _) = _ := h
      by_cases hk : 65536 < k
      · rw [if_pos hk] at h ⊢; exact h
      · rw [if_neg hk] at h ⊢
        cases hc : countR D fold r (min ((if (if fold && r.isEmpty then k + 1 else k) = 0 then 0 else n) * (if fold && r.isEmpty then k + 1 else k)) 4194304) with
        | error e' => rw [hc] at h; rw [count_err hc]; exact h
        | ok q => rw [hc] at h; cases h
theorem count_le {D : List Int} (hD : dimsB D = true) {fold : Bool} : ∀ {l : List (List Mono)} {n n' : Int} {q : List Int × Int}, (∀ p ∈ l, growsB p = true) → countR D fold l n = .ok q → 0 ≤ n' → n' ≤ n → ∃ N, countR D fold l n' = .ok (q.1, N) ∧ 0 ≤ N ∧ N ≤ q.2
  | [], n, n', q, _, h, h0, h1 => by cases h; exact ⟨n', rfl, h0, h1⟩
  | p :: r, n, n', q, hg, h, h0, h1 => by
    rw [countR] at h ⊢
    cases hv : valR D p 122 with
    | error e' => rw [hv] at h; cases h
    | ok k =>
      have hk0 := valR_nn hD (hg p List.mem_cons_self) hv
      rw [hv] at h
      show ∃ N, (if 65536 < k then _ else _) = _ ∧ _
      have h : (if 65536 < k then _ else _) = _ := h
      by_cases hk : 65536 < k
      · rw [if_pos hk] at h; cases h
      · rw [if_neg hk] at h ⊢
        obtain ⟨kk, hkk⟩ : ∃ kk, (if fold && r.isEmpty then k + 1 else k) = kk := ⟨_, rfl⟩
        have hkk0 : 0 ≤ kk := by rw [← hkk]; split <;> omega
        rw [hkk] at h ⊢
        cases hc : countR D fold r (min ((if kk = 0 then 0 else n) * kk) 4194304) with
        | error e' => rw [hc] at h; cases h
        | ok q' =>
          rw [hc] at h
          cases h
          have hm0 : 0 ≤ (if kk = 0 then 0 else n') * kk := Int.mul_nonneg (by split <;> omega) hkk0
          have hm1 : (if kk = 0 then 0 else n') * kk ≤ (if kk = 0 then 0 else n) * kk := Int.mul_le_mul_of_nonneg_right (by split <;> omega) hkk0
          obtain ⟨N, e, h2, h3⟩ := count_le hD (n' := min ((if kk = 0 then 0 else n') * kk) 4194304) (fun p hp => hg p (List.mem_cons_of_mem _ hp)) hc (by omega) (by omega)
          exact ⟨N, by rw [e]; rfl, h2, h3⟩
theorem count_bd {D : List Int} {fold : Bool} : ∀ {l : List (List Mono)} {n : Int} {q : List Int × Int}, countR D fold l n = .ok q → ∀ k ∈ q.1, k ≤ 65536
  | [], n, q, h => by cases h; intro k hk; cases hk
  | p :: r, n, q, h => by
    rw [countR] at h
    cases hv : valR D p 122 with
    | error e' => rw [hv] at h; cases h
    | ok k =>
      rw [hv] at h
      have h : (if 65536 < k then _ else _) = _ := h
      by_cases hk : 65536 < k
      · rw [if_pos hk] at h; cases h
      · rw [if_neg hk] at h
        cases hc : countR D fold r (min ((if (if fold && r.isEmpty then k + 1 else k) = 0 then 0 else n) * (if fold && r.isEmpty then k + 1 else k)) 4194304) with
        | error e' => rw [hc] at h; cases h
        | ok q' =>
          rw [hc] at h
          cases h
          intro x hx
          rcases List.mem_cons.1 hx with rfl | hx
          · omega
          · exact count_bd hc x hx
theorem idxs_in : ∀ {ks : List Int}, (∀ k ∈ ks, k ≤ 65536) → ∀ x ∈ idxs ks, ∀ i ∈ x, In64 i
  | [], _, x, hx, i, hi => by rw [idxs, List.mem_singleton] at hx; subst hx; cases hi
  | k :: r, h, x, hx, i, hi => by
    rw [idxs, List.mem_flatten] at hx
    obtain ⟨l, hl, hx⟩ := hx
    obtain ⟨j, hj, rfl⟩ := List.mem_map.1 hl
    obtain ⟨y, hy, rfl⟩ := List.mem_map.1 hx
    rcases List.mem_cons.1 hi with rfl | hi
    · have h1 := h k List.mem_cons_self
      have h2 := List.mem_range.1 hj
      unfold In64
      omega
    · exact idxs_in (fun k hk => h k (List.mem_cons_of_mem _ hk)) y hy i hi
def MemI (mem : List (List Int)) : Prop := ∀ b ∈ mem, ∀ x ∈ b, In64 x
theorem must_in {r : Int × Int} (h : In64 r.1) {v : Int} (hv : mustR r = .ok v) : In64 v := by
  unfold mustR at hv
  split at hv
  · cases hv; exact h
  · cases hv
theorem unit_in (f : Int) : In64 (unitF f).1 := by
  unfold unitF
  split
  · exact ⟨by decide, by decide⟩
  split
  · exact ⟨by decide, by decide⟩
  split
  · exact (⟨by decide, by decide⟩ : In64 1)
  · exact In64.zero
theorem put_in {D : List Int} {s : Stp} {mem mem' : List (List Int)} {n : Nat} {v : Int} (hm : MemI mem) (hv : In64 v) (h : putR D s mem n v = .ok mem') : MemI mem' ∧ mem'.length = mem.length ∧ ∀ k, (mem'.getD k []).length = (mem.getD k []).length := by
  unfold putR at h
  cases ht : valR D s.pos 121 with
  | error e => rw [ht] at h; cases h
  | ok tt =>
    rw [ht] at h
    have h : (if _ then _ else _) = _ := h
    split at h
    · cases h
    · cases h
      refine ⟨fun b hb x hx => ?_, by simp, fun k => ?_⟩
      · rcases List.mem_or_eq_of_mem_set hb with hb | rfl
        · exact hm b hb x hx
        · rcases List.mem_or_eq_of_mem_set hx with hx | rfl
          · rw [List.getD_eq_getElem?_getD] at hx
            cases e : mem[s.buf.toNat]? with
            | none => rw [e] at hx; cases hx
            | some l => rw [e] at hx; exact hm l (List.mem_of_getElem? e) x hx
          · exact hv
      · simp only [List.getD_eq_getElem?_getD, List.getElem?_set]
        by_cases e : s.buf.toNat = k
        · subst e
          rw [if_pos rfl]
          by_cases hk : s.buf.toNat < mem.length
          · rw [if_pos hk]; simp
          · rw [if_neg hk, List.getElem?_eq_none (Nat.le_of_not_lt hk)]
        · rw [if_neg e]
section
variable {D : List Int} {s : Stp}
/-- the ops of a step that may be run -/
def StpR (s : Stp) : Prop := 0 ≤ depthI s.ops ∧ (∀ o ∈ s.ops, OpR o) ∧ (∀ p ∈ s.loops, growsB p = true)
theorem fold_same (hD : dimsB D = true) (hs : StpR s) {mem : List (List Int)} (hm : MemI mem) {ix : List Int} (hix : ∀ x ∈ ix, In64 x) : ∀ k : Nat, k ≤ 65536 → foldR D mem ix (stepO s) k = foldR D mem ix s k ∧ ∀ v, foldR D mem ix s k = .ok v → In64 v
  | 0, _ => ⟨rfl, fun v e => by cases e; exact unit_in _⟩
  | k + 1, hk => by
    obtain ⟨h1, h2⟩ := fold_same hD hs hm hix k (by omega)
    have C : Ctx D mem (ix ++ [(k : Int)]) := ⟨hD, hm, fun x hx => by
      rcases List.mem_append.1 hx with hx | hx
      · exact hix x hx
      · rw [List.mem_singleton.1 hx]; unfold In64; omega⟩
    have ho := simple_run C hs.1 hs.2.1
    rw [foldR, foldR, h1]
    refine ⟨by show (foldR D mem ix s k).bind (fun v => (opsM D mem (ix ++ [(k : Int)]) (simpleC s.ops)).bind _) = _; rw [ho]; rfl, fun v hv => ?_⟩
    cases hf : foldR D mem ix s k with
    | error e => rw [hf] at hv; cases hv
    | ok u =>
      rw [hf] at hv
      cases hx : opsM D mem (ix ++ [(k : Int)]) s.ops with
      | error e => dsimp only [Except.bind] at hv; rw [hx] at hv; cases hv
      | ok x =>
        dsimp only [Except.bind] at hv
        rw [hx] at hv
        have hv : (if k = 0 then (Except.ok x : Ex Int) else mustR (dyadF s.fn u x)) = .ok v := hv
        have hxi := ops_in C hs.1 hs.2.1 hx
        split at hv
        · cases hv; exact hxi
        · exact must_in (dyad_in (h2 u hf) hxi) hv
/-- an index does the same, and leaves numbers -/
theorem turn_same (hD : dimsB D = true) (hs : StpR s) {last1 : Int} (hl : last1 ≤ 65536) {st : List (List Int) × Nat × Int} (hm : MemI st.1) (hlast : In64 st.2.2) {ix : List Int} (hix : ∀ x ∈ ix, In64 x) :
    turnR D (stepO s) last1 st ix = turnR D s last1 st ix ∧ ∀ st', turnR D s last1 st ix = .ok st' → MemI st'.1 ∧ In64 st'.2.2 ∧ st'.1.length = st.1.length ∧ ∀ k, (st'.1.getD k []).length = (st.1.getD k []).length := by
  have C : Ctx D st.1 ix := ⟨hD, hm, hix⟩
  unfold turnR
  by_cases h2 : s.how = 2
  · rw [if_pos h2, if_pos (show (stepO s).how = 2 from h2)]
    obtain ⟨h3, h4⟩ := fold_same hD hs hm hix last1.toNat (by omega)
    refine ⟨by rw [h3]; rfl, fun st' e => ?_⟩
    cases hf : foldR D st.1 ix s last1.toNat with
    | error e' => rw [hf] at e; cases e
    | ok v =>
      rw [hf] at e
      cases hp : putR D s st.1 st.2.1 v with
      | error e' => dsimp only [Except.bind] at e; rw [hp] at e; cases e
      | ok m =>
        dsimp only [Except.bind] at e
        rw [hp] at e
        cases e
        obtain ⟨p1, p2, p3⟩ := put_in hm (h4 v hf) hp
        exact ⟨p1, hlast, p2, p3⟩
  · rw [if_neg h2, if_neg (show ¬ (stepO s).how = 2 from h2)]
    have ho := simple_run C hs.1 hs.2.1
    refine ⟨by show (opsM D st.1 ix (simpleC s.ops)).bind _ = _; rw [ho]; rfl, fun st' e => ?_⟩
    cases hx : opsM D st.1 ix s.ops with
    | error e' => rw [hx] at e; cases e
    | ok v =>
      have hv := ops_in C hs.1 hs.2.1 hx
      rw [hx] at e
      dsimp only [Except.bind] at e
      cases hd : (if s.how = 3 ∧ 0 < ix.getLastD 0 then mustR (dyadF s.fn st.2.2 v) else .ok v : Ex Int) with
      | error e' => rw [hd] at e; cases e
      | ok u =>
        have hu : In64 u := by
          split at hd
          · exact must_in (dyad_in hlast hv) hd
          · cases hd; exact hv
        rw [hd] at e
        cases hp : putR D s st.1 st.2.1 u with
        | error e' => dsimp only [Except.bind] at e; rw [hp] at e; cases e
        | ok m =>
          dsimp only [Except.bind] at e
          rw [hp] at e
          cases e
          obtain ⟨p1, p2, p3⟩ := put_in hm hu hp
          exact ⟨p1, hu, p2, p3⟩
theorem turns_same (hD : dimsB D = true) (hs : StpR s) {last1 : Int} (hl : last1 ≤ 65536) : ∀ (l : List (List Int)) (st : List (List Int) × Nat × Int), MemI st.1 → In64 st.2.2 → (∀ ix ∈ l, ∀ x ∈ ix, In64 x) →
    turnsR D (stepO s) last1 l st = turnsR D s last1 l st ∧ ∀ st', turnsR D s last1 l st = .ok st' → MemI st'.1 ∧ In64 st'.2.2 ∧ st'.1.length = st.1.length ∧ ∀ k, (st'.1.getD k []).length = (st.1.getD k []).length
  | [], st, hm, hlast, hix => ⟨rfl, fun st' e => by cases e; exact ⟨hm, hlast, rfl, fun _ => rfl⟩⟩
  | ix :: r, st, hm, hlast, hix => by
    obtain ⟨h1, h2⟩ := turn_same hD hs hl hm hlast (hix ix List.mem_cons_self)
    rw [turnsR, turnsR, h1]
    cases ht : turnR D s last1 st ix with
    | error e => exact ⟨rfl, fun st' e => by cases e⟩
    | ok st1 =>
      obtain ⟨a, b, c, d⟩ := h2 st1 ht
      obtain ⟨h3, h4⟩ := turns_same hD hs hl r st1 a b (fun x hx => hix x (List.mem_cons_of_mem _ hx))
      refine ⟨h3, fun st' e => ?_⟩
      obtain ⟨a', b', c', d'⟩ := h4 st' e
      exact ⟨a', b', c'.trans c, fun k => (d' k).trans (d k)⟩
theorem last_bd {ks : List Int} (h : ∀ k ∈ ks, k ≤ 65536) : ks.getLastD 0 ≤ 65536 := by
  cases ks with
  | nil => decide
  | cons a l => exact h _ (by rw [List.getLastD_cons]; exact List.getLastD_mem_cons)
/-- a step does the same, with as many turns or fewer -/
theorem step_same (hD : dimsB D = true) (hs : StpR s) {mem : List (List Int)} {t t' : Int} (hm : MemI mem) (h0 : t' ≤ t) :
    (∀ st, stepR D s (mem, t) = .ok st → MemI st.1 ∧ ∃ u, stepR D (stepO s) (mem, t') = .ok (st.1, u) ∧ u ≤ st.2) ∧ (∀ e, stepR D s (mem, t) = .error e → e ≠ 122 → stepR D (stepO s) (mem, t') = .error e) := by
  have hlen := (simple_facts hs.1).2.1
  cases hc : countR D (s.how == 2) s.loops (s.ops.length : Int) with
  | error e =>
    have hc' : countR D ((stepO s).how == 2) (stepO s).loops ((stepO s).ops.length : Int) = .error e := count_err hc
    have hL : stepR D s (mem, t) = .error e := by unfold stepR; rw [hc]; rfl
    have hR : stepR D (stepO s) (mem, t') = .error e := by unfold stepR; rw [hc']; rfl
    rw [hL, hR]
    exact ⟨(fun st h => by cases h), fun e' h _ => h⟩
  | ok q =>
    obtain ⟨N, hc', hN0, hN⟩ := count_le hD hs.2.2 hc (n' := ((stepO s).ops.length : Int)) (by omega) (by show ((simpleC s.ops).length : Int) ≤ _; omega)
    have hc' : countR D ((stepO s).how == 2) (stepO s).loops ((stepO s).ops.length : Int) = .ok (q.1, N) := hc'
    have hbd := count_bd hc
    have hix : ∀ ix ∈ idxs (if s.how = 2 then q.1.dropLast else q.1), ∀ x ∈ ix, In64 x := idxs_in (by
      split
      · exact fun k hk => hbd k (List.dropLast_subset _ hk)
      · exact hbd)
    obtain ⟨h1, h2⟩ := turns_same hD hs (last_bd hbd) (idxs (if s.how = 2 then q.1.dropLast else q.1)) (mem, 0, 0) hm In64.zero hix
    have hL : stepR D s (mem, t) = if 2097152 < t + q.2 then .error 122 else (turnsR D s (q.1.getLastD 0) (idxs (if s.how = 2 then q.1.dropLast else q.1)) (mem, 0, 0)).map fun r => (r.1, t + q.2) := by unfold stepR; rw [hc]; rfl
    have hR : stepR D (stepO s) (mem, t') = if 2097152 < t' + N then .error 122 else (turnsR D (stepO s) (q.1.getLastD 0) (idxs (if s.how = 2 then q.1.dropLast else q.1)) (mem, 0, 0)).map fun r => (r.1, t' + N) := by unfold stepR; rw [hc']; rfl
    rw [hL, hR, h1]
    by_cases hb : 2097152 < t + q.2
    · rw [if_pos hb]
      exact ⟨(fun st h => by cases h), fun e h hne => by cases h; exact absurd rfl hne⟩
    · rw [if_neg hb, if_neg (show ¬ 2097152 < t' + N by omega)]
      cases ht : turnsR D s (q.1.getLastD 0) (idxs (if s.how = 2 then q.1.dropLast else q.1)) (mem, 0, 0) with
      | error e => exact ⟨(fun st h => by cases h), fun e' h _ => h⟩
      | ok r =>
        refine ⟨fun st h => ?_, (fun e h => by cases h)⟩
        cases h
        exact ⟨(h2 r ht).1, t' + N, rfl, by dsimp only; omega⟩
end
/-- where a run's steps end -/
theorem steps_ge {D : List Int} : ∀ (l : List Stp) (i : Int) (st : List (List Int) × Int) (j e : Int), stepsR D l i st = .inr (j, e) → i ≤ j
  | [], i, st, j, e, h => by cases h
  | s :: r, i, st, j, e, h => by
    rw [stepsR] at h
    split at h
    · cases h; exact Int.le_refl _
    · have := steps_ge r (i + 1) _ j e h
      omega
theorem steps_same {D : List Int} (hD : dimsB D = true) : ∀ (l : List Stp) (i : Int) (mem : List (List Int)) (t t' : Int), (∀ s ∈ l, StpR s) → MemI mem → t' ≤ t →
    match stepsR D l i (mem, t) with
    | .inl st => ∃ u, stepsR D (l.map stepO) i (mem, t') = .inl (st.1, u)
    | .inr (j, e) => if e = 122 then (∀ j' e', stepsR D (l.map stepO) i (mem, t') = .inr (j', e') → j ≤ j') else stepsR D (l.map stepO) i (mem, t') = .inr (j, e)
  | [], i, mem, t, t', _, _, h => ⟨t', rfl⟩
  | s :: r, i, mem, t, t', hs, hm, h => by
    obtain ⟨h1, h2⟩ := step_same hD (hs s List.mem_cons_self) hm h
    rw [stepsR, List.map_cons, stepsR]
    cases hst : stepR D s (mem, t) with
    | error e =>
      dsimp only
      by_cases he : e = 122
      · rw [if_pos he]
        intro j' e' hh
        split at hh
        · cases hh; exact Int.le_refl _
        · have := steps_ge _ _ _ _ _ hh
          omega
      · rw [if_neg he, h2 e hst he]
    | ok st =>
      obtain ⟨hm', u, hu, hle⟩ := h1 st hst
      rw [hu]
      have := steps_same hD r (i + 1) st.1 st.2 u (fun x hx => hs x (List.mem_cons_of_mem _ hx)) hm' hle
      exact this
end Go.Proofs.Ytmlfeocdcjhhaaa

namespace Go.Proofs.Ytmlfeocdcjhhaaa
set_option maxRecDepth 100000
open Go.RowKit
set_option linter.unusedVariables false
set_option linter.unusedSimpArgs false

theorem opS_num (V L : Nat) (made : List Bool) (buf n : Int) : opS V L made buf (numC n) = true := rfl
theorem stepQ_simple {V : Nat} {made : List Bool} {s : Stp} (h : stepQ V made s = true) : stepQ V made (stepO s) = true := by
  have hf := stepQ_fine h
  obtain ⟨-, h1, h2, -, -, h5⟩ := simple_facts hf.deep
  unfold stepQ at h ⊢
  simp only [Bool.and_eq_true, decide_eq_true_eq, List.all_eq_true] at h ⊢
  obtain ⟨⟨⟨h6, h7⟩, h8⟩, h9⟩ := h
  refine ⟨⟨⟨h6, ?_⟩, ?_⟩, ?_⟩
  · show (simpleC s.ops).length ≤ 256
    omega
  · show 0 ≤ depthI (simpleC s.ops)
    omega
  · intro o ho
    rcases h5 o ho with h10 | ⟨n, rfl⟩
    · exact h9 o h10
    · exact opS_num _ _ _ _ _
theorem stepsK_simple {V : Nat} {bufs : List Buf} : ∀ {l : List Stp} {made : List Bool}, stepsK V bufs l made = true → stepsK V bufs (l.map stepO) made = true
  | [], _, _ => rfl
  | s :: l, made, h => by
    rw [stepsK, Bool.and_eq_true] at h
    rw [List.map_cons, stepsK, Bool.and_eq_true]
    refine ⟨?_, stepsK_simple h.2⟩
    have h1 := h.1
    unfold stepS at h1 ⊢
    rw [Bool.and_eq_true] at h1 ⊢
    exact ⟨h1.1, stepQ_simple h1.2⟩
theorem right_coreC {c : Cor} (h : rightB c = true) : rightB (coreC c) = true := by
  unfold rightB at h ⊢
  simp only [Bool.and_eq_true] at h ⊢
  obtain ⟨h1, h2, h3, h4⟩ := h
  refine ⟨?_, h2, stepsK_simple h3, h4⟩
  unfold sizesB at h1 ⊢
  simp only [Bool.and_eq_true, decide_eq_true_eq] at h1 ⊢
  exact ⟨⟨h1.1.1, by show (c.steps.map stepO).length ≤ 1024; rw [List.length_map]; exact h1.1.2⟩, h1.2⟩
theorem cells_coreC {c : Cor} (h : rightB c = true) (D : List Int) : cellsS (coreC c) D = cellsS c D := by
  unfold cellsS
  rw [if_pos h, if_pos (right_coreC h)]
  rfl
/-- what a right step may be run by -/
theorem opB_poly {V L : Nat} {made : List Bool} {o : Cop} (h : opB V L made o = true) (h2 : o.how = 2) : polyB o.p = true := by
  unfold opB at h
  rw [if_neg (by omega), if_pos h2] at h
  unfold ownB at h
  simp only [Bool.and_eq_true] at h
  exact h.2.1
theorem stepQ_run {V : Nat} {made : List Bool} {s : Stp} (h : stepQ V made s = true) (hn : ∀ o ∈ s.ops, I64 o.n) : StpR s := by
  have hf := stepQ_fine h
  unfold stepQ at h
  simp only [Bool.and_eq_true, decide_eq_true_eq, List.all_eq_true] at h
  obtain ⟨⟨⟨⟨⟨⟨⟨⟨h1, h2⟩, -⟩, -⟩, -⟩, -⟩, -⟩, -⟩, h5⟩ := h
  refine ⟨hf.deep, fun o ho => ⟨hn o ho, fun hw => ?_⟩, fun p hp => ?_⟩
  · have := h5 o ho
    unfold opS at this
    simp only [Bool.and_eq_true] at this
    exact opB_poly this.1 hw
  · unfold growB at h2
    simp only [Bool.and_eq_true, List.all_eq_true] at h2
    have := h2.2 p hp
    unfold bothB at this
    simp only [Bool.and_eq_true] at this
    exact this.2
theorem stepsK_run {V : Nat} {bufs : List Buf} : ∀ {l : List Stp} {made : List Bool}, stepsK V bufs l made = true → (∀ s ∈ l, ∀ o ∈ s.ops, I64 o.n) → ∀ s ∈ l, StpR s
  | [], _, _, _, s, hs => by cases hs
  | x :: l, made, h, hn, s, hs => by
    rw [stepsK, Bool.and_eq_true] at h
    rcases List.mem_cons.1 hs with rfl | hs
    · have h1 := h.1
      unfold stepS at h1
      rw [Bool.and_eq_true] at h1
      exact stepQ_run h1.2 (hn _ List.mem_cons_self)
    · exact stepsK_run h.2 (fun s hs => hn s (List.mem_cons_of_mem _ hs)) s hs
theorem right_run {c : Cor} (h : rightB c = true) (hn : ∀ s ∈ c.steps, ∀ o ∈ s.ops, I64 o.n) : ∀ s ∈ c.steps, StpR s := by
  unfold rightB at h
  simp only [Bool.and_eq_true] at h
  exact stepsK_run h.2.2.1 hn
theorem cells_dims {c : Cor} {D : List Int} (h : (cellsS c D).2 = 0) : rightB c = true ∧ dimsC c D = true ∧ dimsB D = true := by
  unfold cellsS at h
  by_cases hr : rightB c = true
  · rw [if_pos hr] at h
    by_cases hd : dimsC c D = true
    · refine ⟨hr, hd, ?_⟩
      unfold dimsC dimQ at hd
      obtain ⟨-, hv, -⟩ := right_vars hr
      simp only [Bool.and_eq_true, decide_eq_true_eq, Bool.not_eq_true', List.any_eq_false] at hd
      unfold dimsB
      simp only [Bool.and_eq_true, decide_eq_true_eq, List.all_eq_true]
      refine ⟨by omega, fun d hd' => ?_⟩
      have := hd.2 d hd'
      simp at this
      omega
    · rw [if_neg hd] at h; cases h
  · rw [if_neg hr] at h; cases h
theorem load_in {D : List Int} {ins : List Ary} (hi : ∀ a ∈ ins, ∀ x ∈ a.2, In64 x) : ∀ (bufs : List Buf) (mem m : List (List Int)), MemI mem → loadR D ins bufs mem = .ok m → MemI m
  | [], mem, m, h, e => by cases e; exact h
  | b :: r, mem, m, h, e => by
    rw [loadR] at e
    by_cases hb : b.input < 0
    · rw [if_pos hb] at e
      refine load_in hi r _ m (fun l hl => ?_) e
      rcases List.mem_append.1 hl with hl | hl
      · exact h l hl
      · rw [List.mem_singleton.1 hl]
        intro x hx
        rw [(List.mem_replicate.1 hx).2]
        exact In64.zero
    · rw [if_neg hb] at e
      split at e
      · refine load_in hi r _ m (fun l hl => ?_) e
        rcases List.mem_append.1 hl with hl | hl
        · exact h l hl
        · rw [List.mem_singleton.1 hl]
          rw [List.getD_eq_getElem?_getD]
          cases e2 : ins[b.input.toNat]? with
          | none => intro x hx; cases hx
          | some a => exact hi a (List.mem_of_getElem? e2)
      · cases e
def NZ {α : Type} (r : Ex α) : Prop := ∀ e, r = .error e → e ≠ 0
theorem NZ.ok {α : Type} (a : α) : NZ (.ok a : Ex α) := fun e h => by cases h
theorem NZ.err {α : Type} {e : Int} (h : e ≠ 0) : NZ (.error e : Ex α) := fun e' h' => by cases h'; exact h
theorem NZ.bind {α β : Type} {r : Ex α} {f : α → Ex β} (h : NZ r) (hf : ∀ a, NZ (f a)) : NZ (r.bind f) := by
  cases r with
  | error e => exact fun e' h' => by cases h'; exact h e rfl
  | ok a => exact hf a
theorem NZ.map {α β : Type} {r : Ex α} {f : α → β} (h : NZ r) : NZ (r.map f) := by
  cases r with
  | error e => exact fun e' h' => by cases h'; exact h e rfl
  | ok a => exact NZ.ok _
theorem NZ.ite {α : Type} {c : Prop} [Decidable c] {a b : Ex α} (ha : NZ a) (hb : NZ b) : NZ (if c then a else b) := by split <;> assumption
theorem val_nz (D : List Int) (p : List Mono) {e : Int} (h : e ≠ 0) : NZ (valR D p e) := by unfold valR; exact NZ.ite (NZ.ok _) (NZ.err h)
theorem must_nz (r : Int × Int) : NZ (mustR r) := by
  unfold mustR
  split
  · exact NZ.ok _
  · rename_i h; exact NZ.err h
theorem op_nz (D : List Int) (mem : List (List Int)) (ix : List Int) (o : Cop) (s : List Int) : NZ (opM D mem ix o s) := by
  unfold opM
  refine NZ.ite (NZ.ok _) (NZ.ite (NZ.map (val_nz _ _ (by decide))) (NZ.ite (NZ.ok _) (NZ.ite ?_ (NZ.ite ?_ (NZ.ite ?_ (NZ.ok _))))))
  · split
    · exact NZ.map (by unfold cellR; exact NZ.ite (NZ.err (by decide)) (NZ.ok _))
    · exact NZ.ok _
  · split
    · exact NZ.map (must_nz _)
    · exact NZ.ok _
  · split
    · exact NZ.map (must_nz _)
    · exact NZ.ok _
theorem runM_nz (D : List Int) (mem : List (List Int)) (ix : List Int) : ∀ (l : List Cop) (s : List Int), NZ (runM D mem ix l s)
  | [], s => NZ.ok _
  | o :: l, s => by rw [runM]; exact NZ.bind (op_nz _ _ _ _ _) (fun s' => runM_nz D mem ix l s')
theorem ops_nz (D : List Int) (mem : List (List Int)) (ix : List Int) (l : List Cop) : NZ (opsM D mem ix l) := NZ.map (runM_nz _ _ _ _ _)
theorem fold_nz (D : List Int) (mem : List (List Int)) (ix : List Int) (s : Stp) : ∀ k : Nat, NZ (foldR D mem ix s k)
  | 0 => NZ.ok _
  | k + 1 => by rw [foldR]; exact NZ.bind (fold_nz D mem ix s k) (fun v => NZ.bind (ops_nz _ _ _ _) (fun x => NZ.ite (NZ.ok _) (must_nz _)))
theorem put_nz (D : List Int) (s : Stp) (mem : List (List Int)) (n : Nat) (v : Int) : NZ (putR D s mem n v) := by
  unfold putR
  exact NZ.bind (val_nz _ _ (by decide)) (fun t => NZ.ite (NZ.err (by decide)) (NZ.ok _))
theorem turn_nz (D : List Int) (s : Stp) (l1 : Int) (st : List (List Int) × Nat × Int) (ix : List Int) : NZ (turnR D s l1 st ix) := by
  unfold turnR
  refine NZ.ite (NZ.bind (fold_nz _ _ _ _ _) (fun v => NZ.map (put_nz _ _ _ _ _))) (NZ.bind (ops_nz _ _ _ _) (fun v => NZ.bind (NZ.ite (must_nz _) (NZ.ok _)) (fun v => NZ.map (put_nz _ _ _ _ _))))
theorem turns_nz (D : List Int) (s : Stp) (l1 : Int) : ∀ (l : List (List Int)) (st : List (List Int) × Nat × Int), NZ (turnsR D s l1 l st)
  | [], st => NZ.ok _
  | ix :: r, st => by rw [turnsR]; exact NZ.bind (turn_nz _ _ _ _ _) (fun st' => turns_nz D s l1 r st')
theorem count_nz (D : List Int) (fold : Bool) : ∀ (l : List (List Mono)) (n : Int), NZ (countR D fold l n)
  | [], n => NZ.ok _
  | p :: r, n => by rw [countR]; exact NZ.bind (val_nz _ _ (by decide)) (fun k => NZ.ite (NZ.err (by decide)) (NZ.map (count_nz D fold r _)))
theorem step_nz (D : List Int) (s : Stp) (st : List (List Int) × Int) : NZ (stepR D s st) := by
  unfold stepR
  exact NZ.bind (count_nz _ _ _ _) (fun q => NZ.ite (NZ.err (by decide)) (NZ.map (turns_nz _ _ _ _ _)))
theorem steps_nz {D : List Int} : ∀ (l : List Stp) (i : Int) (st : List (List Int) × Int) (j e : Int), stepsR D l i st = .inr (j, e) → e ≠ 0
  | [], i, st, j, e, h => by cases h
  | s :: r, i, st, j, e, h => by
    rw [stepsR] at h
    split at h
    · rename_i e' he; cases h; exact step_nz _ _ _ _ he
    · exact steps_nz r (i + 1) _ j e h
/-- how a run ends, by its parts -/
theorem run_cells {c : Cor} {D : List Int} {ins : List Ary} (h : (cellsS c D).2 ≠ 0) : runR c D ins = ([], 0, (cellsS c D).2) := by unfold runR; rw [if_pos h]
theorem run_many {c : Cor} {D : List Int} {ins : List Ary} (h : ¬ (cellsS c D).2 ≠ 0) (hm : (ins.length : Int) ≠ mostR c.bufs) : runR c D ins = ([], 0, 120) := by unfold runR; rw [if_neg h, if_pos hm]
theorem run_load {c : Cor} {D : List Int} {ins : List Ary} {e : Int} (h : ¬ (cellsS c D).2 ≠ 0) (hm : ¬ (ins.length : Int) ≠ mostR c.bufs) (hl : loadR D ins c.bufs [] = .error e) : runR c D ins = ([], 0, e) := by unfold runR; rw [if_neg h, if_neg hm, hl]
theorem run_step {c : Cor} {D : List Int} {ins : List Ary} {mem : List (List Int)} {i e : Int} (h : ¬ (cellsS c D).2 ≠ 0) (hm : ¬ (ins.length : Int) ≠ mostR c.bufs) (hl : loadR D ins c.bufs [] = .ok mem) (hs : stepsR D c.steps 0 (mem, 0) = .inr (i, e)) : runR c D ins = ([], i, e) := by unfold runR; rw [if_neg h, if_neg hm, hl]; dsimp only; rw [hs]
theorem run_good {c : Cor} {D : List Int} {ins : List Ary} {mem : List (List Int)} {st : List (List Int) × Int} (h : ¬ (cellsS c D).2 ≠ 0) (hm : ¬ (ins.length : Int) ≠ mostR c.bufs) (hl : loadR D ins c.bufs [] = .ok mem) (hs : stepsR D c.steps 0 (mem, 0) = .inl st) : runR c D ins = (outsR D c st.1, 0, 0) := by unfold runR; rw [if_neg h, if_neg hm, hl]; dsimp only; rw [hs]
/-- a core that is simplified tells the same, or is refused at the same step, but for its turns -/
theorem run_simple {c : Cor} {D : List Int} {ins : List Ary} (hr : rightB c = true) (hn : ∀ s ∈ c.steps, ∀ o ∈ s.ops, I64 o.n) (hi : ∀ a ∈ ins, ∀ x ∈ a.2, In64 x) :
    ((runR c D ins).2.2 = 122 → ((runR (coreC c) D ins).2.2 ≠ 0 ∨ (runR (coreC c) D ins).2.1 = 0) ∧ ((runR (coreC c) D ins).2.2 = 0 ∨ (runR c D ins).2.1 ≤ (runR (coreC c) D ins).2.1)) ∧ ((runR c D ins).2.2 ≠ 122 → runR (coreC c) D ins = runR c D ins) := by
  have hcc := cells_coreC hr D
  by_cases hc : (cellsS c D).2 ≠ 0
  · rw [run_cells hc, run_cells (c := coreC c) (by rw [hcc]; exact hc), hcc]
    exact ⟨fun _ => ⟨.inr rfl, .inr (Int.le_refl _)⟩, fun _ => rfl⟩
  have hc' : ¬ (cellsS (coreC c) D).2 ≠ 0 := by rw [hcc]; exact hc
  obtain ⟨-, -, hD⟩ := cells_dims (c := c) (D := D) (by simpa using hc)
  by_cases hm : (ins.length : Int) ≠ mostR c.bufs
  · rw [run_many hc hm, run_many (c := coreC c) hc' hm]
    exact ⟨fun _ => ⟨.inr rfl, .inr (Int.le_refl _)⟩, fun _ => rfl⟩
  have hm' : ¬ (ins.length : Int) ≠ mostR (coreC c).bufs := hm
  cases hl : loadR D ins c.bufs [] with
  | error e =>
    rw [run_load hc hm hl, run_load (c := coreC c) hc' hm' hl]
    exact ⟨fun _ => ⟨.inr rfl, .inr (Int.le_refl _)⟩, fun _ => rfl⟩
  | ok mem =>
    have hl' : loadR D ins (coreC c).bufs [] = .ok mem := hl
    have hmem := load_in hi c.bufs [] mem (fun b hb => by cases hb) hl
    have hs := steps_same hD c.steps 0 mem 0 0 (right_run hr hn) hmem (Int.le_refl _)
    cases h1 : stepsR D c.steps 0 (mem, 0) with
    | inl st =>
      rw [h1] at hs
      obtain ⟨u, hu⟩ := hs
      rw [run_good hc hm hl h1, run_good (c := coreC c) (st := (st.1, u)) hc' hm' hl' hu]
      exact ⟨(fun h => by cases h), fun _ => rfl⟩
    | inr q =>
      obtain ⟨j, e⟩ := q
      rw [h1] at hs
      dsimp only at hs
      rw [run_step hc hm hl h1]
      by_cases he : e = 122
      · rw [if_pos he] at hs
        refine ⟨fun _ => ?_, fun h => absurd he h⟩
        cases h2 : stepsR D (c.steps.map stepO) 0 (mem, 0) with
        | inl st => rw [run_good (c := coreC c) hc' hm' hl' h2]; exact ⟨.inr rfl, .inl rfl⟩
        | inr q2 =>
          obtain ⟨j2, e2⟩ := q2
          rw [run_step (c := coreC c) hc' hm' hl' h2]
          exact ⟨.inl (steps_nz _ _ _ _ _ h2), .inr (hs j2 e2 h2)⟩
      · rw [if_neg he] at hs
        rw [run_step (c := coreC c) hc' hm' hl' hs]
        exact ⟨fun h => absurd h he, fun _ => rfl⟩
end Go.Proofs.Ytmlfeocdcjhhaaa
