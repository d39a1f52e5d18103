import Derived.Test.YtmjkncmpanhgjaaBU
namespace Go.Proofs.Ytmjkncmpanhgjaa
set_option maxRecDepth 100000
open Go.RowKit
set_option linter.unusedVariables false
set_option linter.unusedSimpArgs false

/-! Plain laws of chapter 07: turned twice, parts, ravels, each with each of one. -/
theorem flat_inj : ∀ (a b : List (List Int)), (∀ x ∈ a, 0 < x.length) → (∀ y ∈ b, 0 < y.length) → (∀ x ∈ a, ∀ y ∈ b, x.length = y.length) → a.flatten = b.flatten → a = b
  | [], [], _, _, _, _ => rfl
  | [], y :: b, _, h, _, e => by
    have h0 := h y (by simp)
    have e1 : y ++ b.flatten = [] := e.symm
    have e2 : y = [] := (List.append_eq_nil_iff.1 e1).1
    rw [e2] at h0
    exact absurd h0 (by decide)
  | x :: a, [], h, _, _, e => by
    have h0 := h x (by simp)
    have e1 : x ++ a.flatten = [] := e
    have e2 : x = [] := (List.append_eq_nil_iff.1 e1).1
    rw [e2] at h0
    exact absurd h0 (by decide)
  | x :: a, y :: b, h1, h2, h3, e => by
    simp only [List.flatten_cons] at e
    obtain ⟨e1, e2⟩ := List.append_inj e (h3 x (by simp) y (by simp))
    rw [e1, flat_inj a b (fun z hz => h1 z (by simp [hz])) (fun z hz => h2 z (by simp [hz])) (fun z hz u hu => h3 z (by simp [hz]) u (by simp [hu])) e2]
theorem rev_twice {s d : List Int} (h : right s d = true) : revD s (revD s d) = d := by
  obtain ⟨lx, hl⟩ := lane_facts h
  have e1 : revD s d = (lx.map List.reverse).flatten := by unfold revD; rw [hl.eq]
  have hr2 : right s (revD s d) = true := right_same h (revD_len h)
  obtain ⟨ly, hy⟩ := lane_facts hr2
  have e2 : ly = lx.map List.reverse := by
    refine flat_inj ly (lx.map List.reverse) hy.ne ?_ ?_ (by rw [hy.flat, e1])
    · intro y hy'
      obtain ⟨z, hz, rfl⟩ := List.mem_map.1 hy'
      rw [List.length_reverse]; exact hl.ne z hz
    · intro x hx y hy'
      obtain ⟨z, hz, rfl⟩ := List.mem_map.1 hy'
      have a1 := hy.each x hx
      have a2 := hl.each z hz
      rw [List.length_reverse]; omega
  have e3 : revD s (revD s d) = (ly.map List.reverse).flatten := by
    show ((lanes s (revD s d)).1.map List.reverse).flatten = _
    rw [hy.eq]
  rw [e3, e2, List.map_map]
  have : (List.reverse ∘ List.reverse : List Int → List Int) = id := by funext x; simp
  rw [this, List.map_id, hl.flat]
/-- what PrimTwice asks of one of its functions -/
theorem mon_rev {s d : List Int} (h : right s d = true) : monadA 35 s d = okA s (revD s d) := by unfold monadA; rw [if_pos h]; rfl
theorem mon_turn {s d : List Int} (h : right s d = true) : monadA 36 s d = okA s.reverse (turnD s d) := by unfold monadA; rw [if_pos h]; rfl
theorem mon_bad (f : Int) {s d : List Int} (h : right s d = false) : monadA f s d = noA 60 := by unfold monadA; rw [if_neg (by rw [h]; decide)]
theorem mon_rev2 {s d : List Int} (h : right s d = true) : monadA 35 s (revD s d) = okA s d := by rw [mon_rev (right_same h (revD_len h)), rev_twice h]
theorem mon_turn2 {s d : List Int} (h : right s d = true) : monadA 36 s.reverse (turnD s d) = okA s d := by
  rw [mon_turn (right_same (by rw [right_reverse]; exact h) (turnD_len s d)), turn_twice h, List.reverse_reverse]

/-! what Take takes and Drop leaves -/
theorem right_nil1 (n : Int) : right [] [n] = true := by unfold right size; rfl
theorem dy_take {n : Int} {s d : List Int} (h : right s d = true) : dyadA 38 [] [n] s d = takeA [] [n] s d false := by unfold dyadA; rw [right_nil1, h]; rfl
theorem dy_drop {n : Int} {s d : List Int} (h : right s d = true) : dyadA 39 [] [n] s d = takeA [] [n] s d true := by unfold dyadA; rw [right_nil1, h]; rfl
theorem dy_bad2 (f : Int) {s d t e : List Int} (h : right t e = false) : dyadA f s d t e = noA 60 := by unfold dyadA; rw [if_neg (by rw [h]; simp)]
theorem dy_bad1 (f : Int) {s d t e : List Int} (h : right s d = false) : dyadA f s d t e = noA 60 := by unfold dyadA; rw [if_neg (by rw [h]; simp)]
theorem take_in {n : Int} {s d : List Int} {m : Int} (ht : s.length ≠ 0) (hm : s.headD 0 = m) (hb : ¬ (m < n ∨ n < -m)) (b : Bool) :
    takeA [] [n] s d b = if 0 ≤ n then (if b then cutA s d n m else cutA s d 0 n) else if b then cutA s d 0 (m + n) else cutA s d (m + n) m := by
  unfold takeA
  rw [if_neg (by simp [ht])]
  simp only [List.headD_cons, hm]
  rw [if_neg hb]
theorem take_out {n : Int} {s d : List Int} {m : Int} (ht : s.length ≠ 0) (hm : s.headD 0 = m) (hb : m < n ∨ n < -m) (b : Bool) : takeA [] [n] s d b = noA 73 := by
  unfold takeA
  rw [if_neg (by simp [ht])]
  simp only [List.headD_cons, hm]
  rw [if_pos hb]
theorem take_none {n : Int} {s d : List Int} (ht : s.length = 0) (b : Bool) : takeA [] [n] s d b = noA 71 := by
  unfold takeA
  rw [if_pos (.inr ht)]
theorem take_same_err {n : Int} {s d : List Int} (hr : right s d = true) : (∃ e, e ≠ 0 ∧ takeA [] [n] s d false = noA e ∧ takeA [] [n] s d true = noA e) ∨
    ∃ A c m : Nat, A ≤ m ∧ s.headD 0 = (m : Int) ∧ s.length ≠ 0 ∧ prodL s.tail = (c : Int) ∧ d.length = m * c ∧
      takeA [] [n] s d (decide (n < 0)) = okA ((A : Int) :: s.tail) (d.take (A * c)) ∧ takeA [] [n] s d (!decide (n < 0)) = okA (((m : Int) - (A : Int)) :: s.tail) (d.drop (A * c)) := by
  by_cases ht : s.length = 0
  · left
    exact ⟨71, by decide, take_none ht _, take_none ht _⟩
  obtain ⟨m, c, hm, hm6, hc, hl, hcut⟩ := cut_facts hr ht
  by_cases hb : (m : Int) < n ∨ n < -(m : Int)
  · left; exact ⟨73, by decide, take_out ht hm hb _, take_out ht hm hb _⟩
  right
  rw [take_in ht hm hb, take_in ht hm hb]
  have hd : ∀ A : Nat, A ≤ m → ((d.drop (A * c)).take (m * c - A * c)) = d.drop (A * c) := fun A hA => List.take_of_length_le (by rw [List.length_drop, hl]; omega)
  have hz : ∀ A : Nat, ((d.drop (0 * c)).take (A * c - 0 * c)) = d.take (A * c) := fun A => by simp
  have hz2 : ∀ A : Nat, A ≤ m → cutA s d 0 (A : Int) = okA ((A : Int) :: s.tail) (d.take (A * c)) := fun A hA => by
    have := hcut 0 A (by omega) hA
    rw [hz] at this
    rw [show ((0 : Nat) : Int) = 0 from rfl, Int.sub_zero] at this
    exact this
  have hd2 : ∀ A : Nat, A ≤ m → cutA s d (A : Int) (m : Int) = okA (((m : Int) - (A : Int)) :: s.tail) (d.drop (A * c)) := fun A hA => by
    have := hcut A m hA (Nat.le_refl _)
    rw [hd A hA] at this
    exact this
  by_cases h0 : 0 ≤ n
  · obtain ⟨k, rfl⟩ := Int.eq_ofNat_of_zero_le h0
    have e0 : decide ((k : Int) < 0) = false := by rw [decide_eq_false_iff_not]; omega
    rw [e0, if_pos h0, if_pos h0]
    exact ⟨k, c, m, by omega, hm, ht, hc, hl, by rw [if_neg (by decide)]; exact hz2 k (by omega), by rw [if_pos (by decide)]; exact hd2 k (by omega)⟩
  · obtain ⟨k, hk⟩ := Int.eq_ofNat_of_zero_le (show 0 ≤ (m : Int) + n by omega)
    have e0 : decide (n < 0) = true := by rw [decide_eq_true_iff]; omega
    rw [e0, if_neg h0, if_neg h0, hk]
    exact ⟨k, c, m, by omega, hm, ht, hc, hl, by rw [if_pos (by decide)]; exact hz2 k (by omega), by rw [if_neg (by decide)]; exact hd2 k (by omega)⟩
theorem cat_parts {s d : List Int} (hr : right s d = true) {A c m : Nat} (hA : A ≤ m) (hm : s.headD 0 = (m : Int)) (hs : s.length ≠ 0) (hc : prodL s.tail = (c : Int)) (hl : d.length = m * c) :
    dyadA 40 ((A : Int) :: s.tail) (d.take (A * c)) (((m : Int) - (A : Int)) :: s.tail) (d.drop (A * c)) = okA s d := by
  have g := (right_good hr).2
  rcases s with _ | ⟨x, t⟩
  · exact absurd rfl hs
  have hx := g.side x (by simp)
  simp only [List.headD_cons, List.tail_cons] at *
  subst hm
  have hm6 : m ≤ 65536 := by omega
  have r1 := cut_rt (t := (m : Int) :: t) hr (by simp) rfl hm6 hc hl (A := 0) (B := A) (by omega) hA
  have r2 := cut_rt (t := (m : Int) :: t) hr (by simp) rfl hm6 hc hl (A := A) (B := m) hA (Nat.le_refl _)
  rw [show ((d.drop (0 * c)).take (A * c - 0 * c)) = d.take (A * c) by simp] at r1
  rw [List.take_of_length_le (by rw [List.length_drop, hl]; omega)] at r2
  simp only [List.tail_cons] at r1 r2
  rw [show (((A : Nat) : Int) - ((0 : Nat) : Int)) = (A : Int) by omega] at r1
  unfold dyadA
  rw [r1, r2]
  show catA _ _ _ _ = _
  unfold catA
  have e1 : sided ((A : Int) :: t) = (A : Int) :: t := by unfold sided; rfl
  have e2 : sided (((m : Int) - (A : Int)) :: t) = ((m : Int) - (A : Int)) :: t := by unfold sided; rfl
  rw [e1, e2, if_neg (by simp)]
  have e3 : ((A : Int) :: t).headD 0 + (((m : Int) - (A : Int)) :: t).headD 0 = (m : Int) := by simp only [List.headD_cons]; omega
  have e4 : ((A : Int) :: t).tail = t := rfl
  dsimp only
  rw [e3, e4]
  rw [if_neg (by rw [right_size hr]; simp), List.take_append_drop]

/-! ravels -/
theorem mon_shape {s d : List Int} (h : right s d = true) : monadA 33 s d = okA [(s.length : Int)] s := by unfold monadA; rw [if_pos h]; rfl
theorem mon_ravel {s d : List Int} (h : right s d = true) : monadA 34 s d = okA [(d.length : Int)] d := by unfold monadA; rw [if_pos h]; rfl
theorem round_self (d : List Int) : roundL d d.length = d := by
  unfold roundL
  apply List.ext_getElem
  · simp
  · intro i h1 h2
    simp only [List.getElem_map, List.getElem_range]
    rw [Nat.mod_eq_of_lt h2]
    simp [List.getD_eq_getElem?_getD, h2]
theorem dy_rho {n : Nat} {s t e : List Int} (hn : s.length = n) (h4 : n ≤ 65536) (h : right t e = true) : dyadA 37 [(n : Int)] s t e = rhoA [(n : Int)] s t e := by
  unfold dyadA; rw [right_one hn h4, h]; rfl
theorem rho_back {s d : List Int} (h : right s d = true) : dyadA 37 [(s.length : Int)] s [(d.length : Int)] d = okA s d := by
  have g := (right_good h).2
  rw [dy_rho rfl (by have := g.len; omega) (right_one rfl (right_len h))]
  unfold rhoA
  have hb : s.any badSide = false := by
    rw [List.any_eq_false]
    intro x hx
    have := g.side x hx
    simp [badSide]; omega
  rw [if_neg (by simp), if_neg (by rw [hb]; have := g.len; simp; omega), right_size h, if_neg (by simp), if_neg (fun h => by have h1 := h.1; have h2 := h.2; have h1 : 0 < (d.length : Int) := h1; omega)]
  show okA s (roundL d ((d.length : Int)).toNat) = _
  rw [Int.toNat_natCast, round_self]
/-- Rho of less or more: none, or it goes round -/
theorem rho_round {s d t : List Int} (h : right s d = true) (h4 : t.length ≤ 4) : (∃ e, e ≠ 0 ∧ dyadA 37 [(t.length : Int)] t s d = noA e) ∨
    ∃ n : Nat, n ≤ 65536 ∧ (0 < n → 0 < d.length) ∧ dyadA 37 [(t.length : Int)] t s d = okA t (roundL d n) ∧ right t (roundL d n) = true := by
  rw [dy_rho rfl (by omega) h]
  unfold rhoA
  rw [if_neg (by simp)]
  by_cases h1 : 4 < t.length ∨ t.any badSide = true
  · left; exact ⟨73, by decide, by rw [if_pos h1]⟩
  rw [if_neg h1]
  by_cases h2 : (size t).2 ≠ 0
  · left; exact ⟨74, by decide, by rw [if_pos h2]⟩
  rw [if_neg h2]
  by_cases h3 : 0 < (size t).1 ∧ d.length = 0
  · left; exact ⟨72, by decide, by rw [if_pos h3]⟩
  rw [if_neg h3]
  right
  obtain ⟨n, hn, h6⟩ := size_nat (d := t) (by omega)
  refine ⟨n, h6, fun h => ?_, ?_, right_of_size (by rw [hn, roundL_len])⟩
  · rcases Nat.eq_zero_or_pos d.length with h0 | h0
    · exact absurd ⟨by rw [hn]; simp; exact h, h0⟩ h3
    · exact h0
  · rw [hn]; rfl

/-! each with each of one -/
theorem takes_no4 {f : Int} (ht : takes f true = true) : f ≠ 37 ∧ f ≠ 38 ∧ f ≠ 39 ∧ f ≠ 40 := by have := (takes_in ht).2; omega
theorem dy_two {f : Int} {s d t e : List Int} (ht : takes f true = true) (h1 : right s d = true) (h2 : right t e = true) :
    dyadA f s d t e = if s = t then pairsA f d e s else if s.length = 0 then pairsA f (List.replicate e.length (d.headD 0)) e t else if t.length = 0 then pairsA f d (List.replicate d.length (e.headD 0)) s else noA 72 := by
  obtain ⟨a, b, c, d'⟩ := takes_no4 ht
  unfold dyadA
  rw [h1, h2, if_pos (by rfl), if_neg a, if_neg b, if_neg c, if_neg d', if_pos ht]
theorem pairs_rep_l (f n : Int) (s : List Int) (d : List Int) : pairsA f (List.replicate d.length n) d s = if d.any (fun y => refusesB f n y) then noA 11 else okA s (d.map (dyv f n)) := by
  unfold pairsA
  have e1 : ∀ d : List Int, (List.replicate d.length n).zip d = d.map fun y => (n, y) := fun d => by
    induction d with
    | nil => rfl
    | cons x d ih => simp only [List.length_cons, List.replicate_succ, List.zip_cons_cons, List.map_cons, ih]
  have e2 : ∀ d : List Int, List.zipWith (dyv f) (List.replicate d.length n) d = d.map (dyv f n) := fun d => by
    induction d with
    | nil => rfl
    | cons x d ih => simp only [List.length_cons, List.replicate_succ, List.zipWith_cons_cons, List.map_cons, ih]
  rw [e1, e2, List.any_map]
  rfl
theorem pairs_rep_r (f n : Int) (s : List Int) (d : List Int) : pairsA f d (List.replicate d.length n) s = if d.any (fun y => refusesB f y n) then noA 11 else okA s (d.map fun y => dyv f y n) := by
  unfold pairsA
  have e1 : ∀ d : List Int, d.zip (List.replicate d.length n) = d.map fun y => (y, n) := fun d => by
    induction d with
    | nil => rfl
    | cons x d ih => simp only [List.length_cons, List.replicate_succ, List.zip_cons_cons, List.map_cons, ih]
  have e2 : ∀ d : List Int, List.zipWith (dyv f) d (List.replicate d.length n) = d.map fun y => dyv f y n := fun d => by
    induction d with
    | nil => rfl
    | cons x d ih => simp only [List.length_cons, List.replicate_succ, List.zipWith_cons_cons, List.map_cons, ih]
  rw [e1, e2, List.any_map]
  rfl
theorem one_list {d : List Int} (h : d.length = 1) : ∃ x, d = [x] := List.length_eq_one_iff.1 h
theorem outer_one_l {f n : Int} {s d : List Int} (ht : takes f true = true) (hr : right s d = true) : outerA f [] [n] s d = dyadA f [] [n] s d := by
  have e1 : dyadA f [] [n] s d = pairsA f (List.replicate d.length n) d s := by
    rw [dy_two ht (right_nil1 n) hr]
    by_cases hs : [] = s
    · obtain ⟨x, rfl⟩ := one_list (one_of_none hr (by rw [← hs]; rfl))
      subst hs
      rw [if_pos (rfl : ([] : List Int) = [])]; rfl
    · rw [if_neg hs, if_pos (by rfl)]; rfl
  rw [e1, pairs_rep_l]
  unfold outerA
  rw [right_nil1, hr, if_pos (by rfl), if_pos ht, List.nil_append, if_neg (by have := (right_good hr).2.len; omega), right_size hr, if_neg (by simp)]
  simp only [List.any_cons, List.any_nil, Bool.or_false, List.flatMap_cons, List.flatMap_nil, List.append_nil]
theorem outer_one_r {f n : Int} {s d : List Int} (ht : takes f true = true) (hr : right s d = true) : outerA f s d [] [n] = dyadA f s d [] [n] := by
  have e1 : dyadA f s d [] [n] = pairsA f d (List.replicate d.length n) s := by
    rw [dy_two ht hr (right_nil1 n)]
    by_cases hs : s = []
    · obtain ⟨x, rfl⟩ := one_list (one_of_none hr (by rw [hs]; rfl))
      subst hs
      rw [if_pos (rfl : ([] : List Int) = [])]; rfl
    · rw [if_neg hs, if_neg (fun h => hs (List.eq_nil_of_length_eq_zero h)), if_pos (by rfl)]; rfl
  rw [e1, pairs_rep_r]
  unfold outerA
  rw [right_nil1, hr, if_pos (by rfl), if_pos ht, List.append_nil, if_neg (by have := (right_good hr).2.len; omega), right_size hr, if_neg (by simp)]
  simp only [List.any_cons, List.any_nil, Bool.or_false, List.map_cons, List.map_nil]
  have e2 : ∀ d : List Int, (d.flatMap fun x => [dyv f x n]) = d.map fun y => dyv f y n := fun d => by
    induction d with
    | nil => rfl
    | cons x d ih => rw [List.flatMap_cons, ih]; rfl
  rw [e2]
theorem outer_bad {f n : Int} {s d : List Int} (h : (takes f true && right s d) = false) : ∃ e, e ≠ 0 ∧ outerA f [] [n] s d = noA e ∧ outerA f s d [] [n] = noA e := by
  unfold outerA
  cases hr : right s d with
  | false => exact ⟨60, by decide, by rw [if_neg (by simp)], by rw [if_neg (by simp)]⟩
  | true =>
    rw [hr, Bool.and_true] at h
    rw [right_nil1, h]
    exact ⟨70, by decide, rfl, rfl⟩
theorem foldA_rt (f : Int) {s d : List Int} (hd : ∀ x ∈ d, In64 x) : Rt (foldA f s d) := by
  by_cases hr : right s d = true
  case neg => unfold foldA; rw [if_neg hr]; exact Rt.noA (by decide)
  by_cases ht : takes f true = true
  case neg => unfold foldA; rw [if_pos hr, if_neg ht]; exact Rt.noA (by decide)
  by_cases hs : s.length = 0
  · unfold foldA
    rw [if_pos hr, if_pos ht, if_pos hs]
    have : s = [] := List.eq_nil_of_length_eq_zero hs
    subst this
    exact Rt.okA hr hd
  obtain ⟨lx, hl⟩ := lane_facts hr
  rw [foldA_eq hr ht hl hs]
  by_cases h2 : (size s.dropLast).2 ≠ 0
  · rw [if_pos h2]; exact Rt.noA (by decide)
  rw [if_neg h2]
  obtain ⟨n, hn, h6⟩ := size_nat (d := s.dropLast) (by omega)
  by_cases hz : lastOf s = 0
  · rw [if_pos hz, hn]
    refine Rt.okA (right_of_size (by rw [hn]; simp)) (rep_in ?_)
    unfold unitF In64
    repeat' split
    all_goals (try dsimp only); (try omega)
  rw [if_neg hz]
  cases hb : badL f lx with
  | true => rw [foldL_bad hb]; exact Rt.noA (by decide)
  | false =>
    rw [foldL_good hb]
    have hc := (fold_count hr hl hs hn).2.2 hz
    refine Rt.okA (right_of_size (by rw [hn, hc]; simp)) (fun x hx => ?_)
    obtain ⟨l, h3, rfl⟩ := List.mem_map.1 hx
    have hin := laneL_in f (lanes_in hl.flat hd l h3)
    cases hq : (laneL f l).1.getLast? with
    | none => rw [List.getLastD_eq_getLast?, hq]; exact In64.zero
    | some a => rw [List.getLastD_eq_getLast?, hq]; exact hin a (List.mem_of_getLast? hq)
end Go.Proofs.Ytmjkncmpanhgjaa
