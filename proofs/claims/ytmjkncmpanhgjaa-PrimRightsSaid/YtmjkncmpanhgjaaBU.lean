import Derived.Test.YtmjkncmpanhgjaaPA22
namespace Go.Proofs.Ytmjkncmpanhgjaa
set_option maxRecDepth 100000
open Go.RowKit
set_option linter.unusedVariables false
set_option linter.unusedSimpArgs false

/-! What is answered is an array of numbers of 64 bits, or none: plainly. -/
theorem size_of {xs : List Int} (h4 : xs.length ≤ 4) (hs : ∀ x ∈ xs, 0 ≤ x ∧ x ≤ 65536) (hp : prodL xs ≤ 65536) : size xs = (prodL xs, 0) := by
  unfold size
  rw [if_neg (by omega), if_neg (by
    rw [Bool.not_eq_true, List.any_eq_false]
    intro x hx
    have := hs x hx
    simp [badSide]; omega)]
  split
  · rename_i h
    obtain ⟨x, hx, e⟩ := List.any_eq_true.1 h
    have e : x = 0 := by have : (0 : Int) = x := by simpa using e
                         exact this.symm
    subst e
    rw [prodL_zero hx]
  · rename_i h
    have hpos : ∀ x ∈ xs, 0 < x := fun x hx => by
      have h1 := (hs x hx).1
      have h3 : x ≠ 0 := fun e => h (List.any_eq_true.2 ⟨x, hx, by simp [e]⟩)
      omega
    rw [prodTo_pos xs 1 hpos (by omega) (by omega), Int.one_mul, if_neg (by omega)]
theorem right_mk {s d : List Int} (h4 : s.length ≤ 4) (hs : ∀ x ∈ s, 0 ≤ x ∧ x ≤ 65536) (hp : prodL s = (d.length : Int)) (hd : d.length ≤ 65536) : right s d = true := by
  unfold right
  rw [size_of h4 hs (by omega), hp]
  simp
theorem right_len {s d : List Int} (h : right s d = true) : d.length ≤ 65536 := by have := (right_good h).2.le; omega
theorem right_same {s d e : List Int} (h : right s d = true) (hl : e.length = d.length) : right s e = true := by unfold right at *; rw [hl]; exact h
theorem right_of_size {s d : List Int} (h : size s = ((d.length : Int), 0)) : right s d = true := by unfold right; rw [h]; simp
theorem side_in {s d : List Int} (h : right s d = true) : ∀ x ∈ s, In64 x := fun x hx => by have := (right_good h).2.side x hx; unfold In64; omega
/-- an array of numbers of 64 bits, or none -/
structure Rt (r : ArrE) : Prop where
  ok : r.2 = 0 → right r.1.1 r.1.2 = true
  no : r.2 ≠ 0 → r.1 = ([], [])
  i1 : ∀ x ∈ r.1.1, In64 x
  i2 : ∀ x ∈ r.1.2, In64 x
theorem Rt.noA {e : Int} (h : e ≠ 0) : Rt (noA e) := ⟨fun h' => absurd h' h, fun _ => rfl, by unfold Ytmjkncmpanhgjaa.noA; simp, by unfold Ytmjkncmpanhgjaa.noA; simp⟩
theorem Rt.okA {s d : List Int} (h : right s d = true) (hd : ∀ x ∈ d, In64 x) : Rt (okA s d) := ⟨fun _ => h, fun h' => absurd rfl h', side_in h, hd⟩
theorem right_none : right [] [] = false := by decide
theorem Rt.bad {r : ArrE} (h : Rt r) (he : r.2 ≠ 0) : right r.1.1 r.1.2 = false := by rw [h.no he]; exact right_none
theorem Rt.iff {r : ArrE} (h : Rt r) : right r.1.1 r.1.2 = (r.2 == 0) := by
  by_cases he : r.2 = 0
  · rw [h.ok he, he]; rfl
  · rw [h.bad he]; symm; rw [beq_eq_false_iff_ne]; exact he
theorem right_one {n : Nat} {d : List Int} (hn : d.length = n) (h : n ≤ 65536) : right [(n : Int)] d = true :=
  right_mk (by simp) (fun x hx => by rw [List.mem_singleton.1 hx]; omega) (by simp [prodL, hn]) (by omega)
theorem iotaL_in {n : Nat} (h : n ≤ 65536) : ∀ x ∈ iotaL n, In64 x := fun x hx => by
  unfold iotaL at hx
  obtain ⟨k, hk, rfl⟩ := List.mem_map.1 hx
  have := List.mem_range.1 hk
  exact In64.nat64 (by omega)
where In64.nat64 {n : Nat} (h : n ≤ 9223372036854775807) : In64 (n : Int) := by unfold In64; omega
theorem iotaA_rt (s d : List Int) : Rt (iotaA s d) := by
  unfold iotaA
  split
  · exact Rt.noA (by decide)
  · split
    · exact Rt.noA (by decide)
    · rename_i h
      obtain ⟨n, hn⟩ := Int.eq_ofNat_of_zero_le (show 0 ≤ d.headD 0 by omega)
      rw [hn]
      have hn6 : n ≤ 65536 := by omega
      exact Rt.okA (right_one (iotaL_len _) (by simpa using hn6)) (iotaL_in (by simpa using hn6))
theorem revD_len {s d : List Int} (h : right s d = true) : (revD s d).length = d.length := by
  obtain ⟨lx, hl⟩ := lane_facts h
  unfold revD
  rw [hl.eq, ← hl.flat]
  dsimp only
  clear hl
  induction lx with
  | nil => rfl
  | cons x lx ih => simp only [List.map_cons, List.flatten_cons, List.length_append, List.length_reverse, ih]
theorem revD_mem {s d : List Int} (h : right s d = true) {x : Int} (hx : x ∈ revD s d) : x ∈ d := by
  obtain ⟨lx, hl⟩ := lane_facts h
  unfold revD at hx
  rw [hl.eq] at hx
  dsimp only at hx
  rw [← hl.flat]
  obtain ⟨l, h1, h2⟩ := List.mem_flatten.1 hx
  obtain ⟨k, h3, rfl⟩ := List.mem_map.1 h1
  exact List.mem_flatten.2 ⟨k, h3, List.mem_reverse.1 h2⟩
theorem turnD_in {s d : List Int} (hd : ∀ x ∈ d, In64 x) : ∀ x ∈ turnD s d, In64 x := fun x hx => by
  unfold turnD at hx
  obtain ⟨k, _, rfl⟩ := List.mem_map.1 hx
  exact getD_in64 hd _
theorem shape_in {s d : List Int} (h : right s d = true) : right [(s.length : Int)] s = true := right_one rfl (by have := (right_good h).2.len; omega)
theorem monadA_rt (f : Int) (s d : List Int) (hd : ∀ x ∈ d, In64 x) : Rt (monadA f s d) := by
  unfold monadA
  by_cases hr : right s d = true
  case neg => rw [if_neg hr]; exact Rt.noA (by decide)
  rw [if_pos hr]
  refine ite_pred (iotaA_rt s d) (ite_pred (Rt.okA (shape_in hr) (side_in hr)) (ite_pred (Rt.okA (right_one rfl (right_len hr)) hd) (ite_pred (Rt.okA (right_same hr (revD_len hr)) (fun x hx => hd x (revD_mem hr hx))) (ite_pred ?_ (ite_pred (ite_pred (Rt.noA (by decide)) (Rt.okA (right_same hr (by simp)) ?_)) (Rt.noA (by decide)))))))
  · exact Rt.okA (right_same (by rw [right_reverse]; exact hr) (turnD_len s d)) (turnD_in hd)
  · intro x hx
    obtain ⟨k, hk, rfl⟩ := List.mem_map.1 hx
    exact monad_in (hd k hk)
theorem pairsA_rt {f : Int} {xs ys s d : List Int} (hr : right s d = true) (h1 : xs.length = d.length) (h2 : ys.length = d.length) (hx : ∀ x ∈ xs, In64 x) (hy : ∀ y ∈ ys, In64 y) : Rt (pairsA f xs ys s) := by
  rw [pairsA_eq]
  unfold doneA
  by_cases hw : wrongP f (xs.zip ys) = 0
  · rw [if_pos hw]
    refine Rt.okA (right_same hr (by rw [outP_len]; simp [h1, h2])) (fun z hz => ?_)
    unfold outP at hz
    obtain ⟨p, hp, rfl⟩ := List.mem_map.1 hz
    have hm := List.of_mem_zip hp
    exact callV_in64 (hx _ hm.1) (hy _ hm.2)
  · rw [if_neg hw]; exact Rt.noA hw
theorem roundL_in {e : List Int} (h : ∀ x ∈ e, In64 x) (m : Nat) : ∀ x ∈ roundL e m, In64 x := fun x hx => by
  unfold roundL at hx
  obtain ⟨k, _, rfl⟩ := List.mem_map.1 hx
  exact getD_in64 h _
theorem size_nat {d : List Int} (h : (size d).2 = 0) : ∃ n : Nat, size d = ((n : Int), 0) ∧ n ≤ 65536 := by
  have hs : size d = ((size d).1, 0) := by rw [← h]
  have g := size_good hs
  have h0 := (prodL_le_pow g.side).1
  rw [← g.prod] at h0
  obtain ⟨n, hn⟩ := Int.eq_ofNat_of_zero_le h0
  exact ⟨n, by rw [hs, hn], by have := g.le; omega⟩
theorem rhoA_rt (s d t e : List Int) (he : ∀ x ∈ e, In64 x) : Rt (rhoA s d t e) := by
  unfold rhoA
  refine ite_pred (Rt.noA (by decide)) (ite_pred (Rt.noA (by decide)) (ite_pred' (fun _ => Rt.noA (by decide)) (fun hz => ite_pred (Rt.noA (by decide)) ?_)))
  obtain ⟨n, hn, -⟩ := size_nat (d := d) (by omega)
  exact Rt.okA (right_of_size (by rw [hn]; simp)) (roundL_in he _)
/-- the cells of an array, plainly -/
theorem cut_facts {t e : List Int} (hr : right t e = true) (ht : t.length ≠ 0) : ∃ m c : Nat, t.headD 0 = (m : Int) ∧ m ≤ 65536 ∧ prodL t.tail = (c : Int) ∧ e.length = m * c ∧
    ∀ A B : Nat, A ≤ B → B ≤ m → cutA t e (A : Int) (B : Int) = okA (((B : Int) - (A : Int)) :: t.tail) ((e.drop (A * c)).take (B * c - A * c)) := by
  have g := (right_good hr).2
  rcases t with _ | ⟨x, t⟩
  · exact absurd rfl ht
  have hx := g.side x (by simp)
  obtain ⟨m, rfl⟩ := Int.eq_ofNat_of_zero_le hx.1
  have hp := g.prod
  rw [prodL] at hp
  have h0 : 0 ≤ prodL t := (prodL_le_pow (l := t) (fun y hy => g.side y (by simp [hy]))).1
  obtain ⟨c, hc⟩ := Int.eq_ofNat_of_zero_le h0
  rw [hc] at hp
  have hp' : e.length = m * c := by exact_mod_cast hp
  refine ⟨m, c, rfl, by omega, hc, hp', fun A B hAB hB => ?_⟩
  by_cases hm : m = 0
  · subst hm
    obtain rfl : B = 0 := by omega
    obtain rfl : A = 0 := by omega
    have : e = [] := List.eq_nil_of_length_eq_zero (by rw [hp']; simp)
    subst this
    rw [cut_eq (m := 0) (c := 0) (l := 0) (h := 0) rfl (by simp) (by simp) (by simp) (Nat.le_refl _)]
    simp
  · have hd : (e.length : Int) / (m : Int) = (c : Int) := by
      rw [hp']
      have : ((m * c : Nat) : Int) = (m : Int) * (c : Int) := by simp
      rw [this, Int.mul_ediv_cancel_left _ (by omega)]
    exact cut_eq (t := (m : Int) :: t) rfl hd rfl rfl hAB
theorem cut_len {e : List Int} {m c A B : Nat} (he : e.length = m * c) (hAB : A ≤ B) (hB : B ≤ m) : ((e.drop (A * c)).take (B * c - A * c)).length = (B - A) * c := by
  have h1 : B * c ≤ m * c := Nat.mul_le_mul_right _ hB
  have h2 : A * c ≤ B * c := Nat.mul_le_mul_right _ hAB
  rw [List.length_take, List.length_drop, he, Nat.sub_mul]
  omega
theorem cut_rt {t e : List Int} (hr : right t e = true) (ht : t.length ≠ 0) {m c A B : Nat} (hm : t.headD 0 = (m : Int)) (hm6 : m ≤ 65536) (hc : prodL t.tail = (c : Int)) (he : e.length = m * c) (hAB : A ≤ B) (hB : B ≤ m) :
    right (((B : Int) - (A : Int)) :: t.tail) ((e.drop (A * c)).take (B * c - A * c)) = true := by
  have g := (right_good hr).2
  have hl := cut_len he hAB hB
  have h6 := right_len hr
  refine right_mk ?_ ?_ ?_ ?_
  · have := g.len; simp; omega
  · intro x hx
    rcases List.mem_cons.1 hx with rfl | hx
    · omega
    · exact g.side x (List.mem_of_mem_tail hx)
  · rw [prodL, hc, hl]
    have : ((B : Int) - (A : Int)) = ((B - A : Nat) : Int) := by omega
    rw [this]; simp
  · rw [List.length_take, List.length_drop]; omega
theorem takeA_rt (s d : List Int) {t e : List Int} (b : Bool) (hr : right t e = true) (he : ∀ x ∈ e, In64 x) : Rt (takeA s d t e b) := by
  unfold takeA
  by_cases hb : 0 < s.length ∨ t.length = 0
  · rw [if_pos hb]; exact Rt.noA (by decide)
  rw [if_neg hb]
  have ht : t.length ≠ 0 := fun h => hb (.inr h)
  obtain ⟨m, c, hm, hm6, hc, hl, hcut⟩ := cut_facts hr ht
  have key : ∀ A B : Nat, A ≤ B → B ≤ m → Rt (cutA t e (A : Int) (B : Int)) := fun A B h1 h2 => by
    rw [hcut A B h1 h2]
    exact Rt.okA (cut_rt hr ht hm hm6 hc hl h1 h2) (fun x hx => he x (List.mem_of_mem_drop (List.mem_of_mem_take hx)))
  simp only [hm]
  generalize d.headD 0 = n
  by_cases hn : (m : Int) < n ∨ n < -(m : Int)
  · rw [if_pos hn]; exact Rt.noA (by decide)
  rw [if_neg hn]
  by_cases h0 : 0 ≤ n
  · rw [if_pos h0]
    obtain ⟨k, rfl⟩ := Int.eq_ofNat_of_zero_le h0
    exact ite_pred (key k m (by omega) (by omega)) (key 0 k (by omega) (by omega))
  · rw [if_neg h0]
    obtain ⟨k, hk⟩ := Int.eq_ofNat_of_zero_le (show 0 ≤ (m : Int) + n by omega)
    rw [hk]
    exact ite_pred (key 0 k (by omega) (by omega)) (key k m (by omega) (by omega))
theorem right_sided {s d : List Int} (h : right s d = true) : right (sided s) d = true := by
  unfold sided
  split
  · rename_i h0
    have := one_of_none h h0
    exact right_mk (by simp) (fun x hx => by rw [List.mem_singleton.1 hx]; omega) (by rw [this]; rfl) (by omega)
  · exact h
theorem sided_ne (s : List Int) : (sided s).length ≠ 0 := by unfold sided; split; (· simp); (· assumption)
theorem cat_right {s d t e : List Int} (h1 : right s d = true) (h2 : right t e = true) (hl : (sided s).tail = (sided t).tail) (hz : (size (((sided s).headD 0 + (sided t).headD 0) :: (sided s).tail)).2 = 0) :
    right (((sided s).headD 0 + (sided t).headD 0) :: (sided s).tail) (d ++ e) = true := by
  have g1 := (right_good (right_sided h1)).2.prod
  have g2 := (right_good (right_sided h2)).2.prod
  obtain ⟨n, hn, h6⟩ := size_nat hz
  have g := (size_good hn).prod
  have n1 := sided_ne s
  have n2 := sided_ne t
  generalize sided s = S at *
  generalize sided t = T at *
  rcases S with _ | ⟨x, S⟩
  · exact absurd rfl n1
  rcases T with _ | ⟨y, T⟩
  · exact absurd rfl n2
  have hl : S = T := hl
  subst hl
  simp only [List.headD_cons, List.tail_cons, prodL] at *
  refine right_of_size ?_
  rw [hn, g, Int.add_mul, ← g1, ← g2]
  simp
theorem catA_rt {s d t e : List Int} (h1 : right s d = true) (h2 : right t e = true) (hd : ∀ x ∈ d, In64 x) (he : ∀ x ∈ e, In64 x) : Rt (catA s d t e) := by
  unfold catA
  by_cases hb : (sided s).length ≠ (sided t).length ∨ (sided s).tail ≠ (sided t).tail
  · rw [if_pos hb]; exact Rt.noA (by decide)
  rw [if_neg hb]
  have ht : (sided s).tail = (sided t).tail := Classical.byContradiction fun h => hb (.inr h)
  dsimp only
  by_cases hz : (size (((sided s).headD 0 + (sided t).headD 0) :: (sided s).tail)).2 ≠ 0
  · rw [if_pos hz]; exact Rt.noA (by decide)
  rw [if_neg hz]
  refine Rt.okA (cat_right h1 h2 ht (by omega)) (fun x hx => ?_)
  rcases List.mem_append.1 hx with h | h
  · exact hd x h
  · exact he x h
theorem rep_in {n : Nat} {x : Int} (h : In64 x) : ∀ y ∈ List.replicate n x, In64 y := fun y hy => by rw [(List.mem_replicate.1 hy).2]; exact h
theorem head_in {d : List Int} (h : ∀ x ∈ d, In64 x) : In64 (d.headD 0) := by
  cases d with
  | nil => exact In64.zero
  | cons x d => exact h x (by simp)
theorem dyadA_rt (f : Int) {s d t e : List Int} (hd : ∀ x ∈ d, In64 x) (he : ∀ x ∈ e, In64 x) : Rt (dyadA f s d t e) := by
  unfold dyadA
  by_cases hr : (right s d && right t e) = true
  case neg => rw [if_neg hr]; exact Rt.noA (by decide)
  rw [if_pos hr]
  obtain ⟨h1, h2⟩ := (Bool.and_eq_true _ _).mp hr
  refine ite_pred (rhoA_rt s d t e he) (ite_pred (takeA_rt s d false h2 he) (ite_pred (takeA_rt s d true h2 he) (ite_pred (catA_rt h1 h2 hd he) (ite_pred (ite_pred' (fun hst => ?_) (fun _ => ite_pred' (fun hs0 => ?_) (fun _ => ite_pred' (fun ht0 => ?_) (fun _ => Rt.noA (by decide))))) (Rt.noA (by decide))))))
  · have a1 := right_size h1
    have a2 := right_size h2
    rw [hst, a2] at a1
    injection a1 with a1
    exact pairsA_rt h1 rfl (by omega) hd he
  · exact pairsA_rt h2 (by simp) rfl (rep_in (head_in hd)) he
  · exact pairsA_rt h1 rfl (by simp) hd (rep_in (head_in he))
theorem laneL_in (f : Int) {l : List Int} (h : ∀ x ∈ l, In64 x) : ∀ x ∈ (laneL f l).1, In64 x := by
  induction l using snoc_ind with
  | h0 => intro x hx; simp [laneL] at hx
  | h1 l x ih =>
    have hl := ih (fun y hy => h y (by simp [hy]))
    have hx := h x (by simp)
    rw [laneL_snoc]
    unfold stepL
    split
    · intro y hy
      rw [List.mem_singleton.1 hy]; exact hx
    · rename_i a ha
      intro y hy
      rcases List.mem_append.1 hy with h1 | h1
      · exact hl y h1
      · rw [List.mem_singleton.1 h1]
        exact ite_pred' (fun _ => In64.zero) (fun hb => dyv_in (hl a (List.mem_of_getLast? ha)) hx (by simpa using hb))
theorem scanA_rt (f : Int) {s d : List Int} (hd : ∀ x ∈ d, In64 x) : Rt (scanA f s d) := by
  by_cases hr : right s d = true
  case neg => unfold scanA; rw [if_neg hr]; exact Rt.noA (by decide)
  by_cases ht : takes f true = true
  case neg => unfold scanA; rw [if_pos hr, if_neg ht]; exact Rt.noA (by decide)
  obtain ⟨lx, hl⟩ := lane_facts hr
  rw [scanA_eq hr ht hl]
  cases hb : badL f lx with
  | true => rw [scanL_bad hb]; exact Rt.noA (by decide)
  | false =>
    rw [scanL_good hb]
    refine Rt.okA (right_same hr (by rw [scan_flat_len, hl.flat])) (fun x hx => ?_)
    obtain ⟨z, h1, h2⟩ := List.mem_flatten.1 hx
    obtain ⟨l, h3, rfl⟩ := List.mem_map.1 h1
    exact laneL_in f (lanes_in hl.flat hd l h3) x h2
end Go.Proofs.Ytmjkncmpanhgjaa
