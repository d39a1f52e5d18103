import Derived.Test.YtmjkncmpanhgjaaBV
import Derived.Test.YtmjkncmpanhgjaaPA20
namespace Go.Proofs.Ytmjkncmpanhgjaa
set_option maxRecDepth 100000
open Go.RowKit
set_option linter.unusedVariables false
set_option linter.unusedSimpArgs false

/-! Plain laws of chapter 07: the fold of two parts. -/
def vL (f : Int) (l : List Int) : Int := (laneL f l).1.getLastD 0
def vF (f : Int) (l : List Int) : Int := if l.length = 0 then (unitF f).1 else vL f l
theorem vL_one (f x : Int) : vL f [x] = x := rfl
theorem vL_step (f : Int) {l : List Int} (x : Int) (h : 0 < l.length) : laneL f (l ++ [x]) = ((laneL f l).1 ++ [if refusesB f (vL f l) x then 0 else dyv f (vL f l) x], (laneL f l).2 || refusesB f (vL f l) x) := by
  obtain ⟨a, h1, h2⟩ := laneL_step f x h
  have : vL f l = a := by unfold vL; rw [List.getLastD_eq_getLast?, h1]; rfl
  rw [this, h2]
theorem vL_snoc (f : Int) {l : List Int} {x : Int} (h : 0 < l.length) (hb : (laneL f (l ++ [x])).2 = false) : (laneL f l).2 = false ∧ refusesB f (vL f l) x = false ∧ vL f (l ++ [x]) = dyv f (vL f l) x := by
  have hs := vL_step f x h
  rw [hs] at hb
  obtain ⟨h1, h2⟩ := Bool.or_eq_false_iff.1 hb
  refine ⟨h1, h2, ?_⟩
  have e : vL f (l ++ [x]) = ((laneL f l).1 ++ [if refusesB f (vL f l) x then 0 else dyv f (vL f l) x]).getLastD 0 := by
    conv => lhs; unfold vL
    rw [hs]
  rw [e, h2]
  simp
theorem scans_cases {f : Int} (h : scansB f = true) : f = 1 ∨ f = 3 ∨ f = 6 ∨ f = 7 ∨ f = 14 ∨ f = 15 := by
  unfold scansB at h
  simp at h
  omega
theorem ref14 {a b : Int} (h : refusesB 14 a b = false) : isBit a = true ∧ isBit b = true := by unfold refusesB at h; simpa using h
theorem ref15 {a b : Int} (h : refusesB 15 a b = false) : isBit a = true ∧ isBit b = true := by unfold refusesB at h; simpa using h
theorem ref_mk14 {a b : Int} (h1 : isBit a = true) (h2 : isBit b = true) : refusesB 14 a b = false := by unfold refusesB; simp [h1, h2]
theorem ref_mk15 {a b : Int} (h1 : isBit a = true) (h2 : isBit b = true) : refusesB 15 a b = false := by unfold refusesB; simp [h1, h2]
theorem ref_l {f a b x : Int} (h : scansB f = true) (h1 : refusesB f a (dyv f b x) = false) (h2 : refusesB f b x = false) : refusesB f a b = false := by
  rcases scans_cases h with rfl | rfl | rfl | rfl | rfl | rfl
  iterate 4
    · rfl
  · exact ref_mk14 (ref14 h1).1 (ref14 h2).1
  · exact ref_mk15 (ref15 h1).1 (ref15 h2).1
theorem dy_assoc {f a b c : Int} (h : scansB f = true) (h1 : refusesB f a b = false) (h2 : refusesB f b c = false) : dyv f (dyv f a b) c = dyv f a (dyv f b c) := by
  rcases scans_cases h with rfl | rfl | rfl | rfl | rfl | rfl
  · show wrap64 (wrap64 (a + b) + c) = wrap64 (a + wrap64 (b + c))
    rw [wrap_add_l, wrap_add_r, Int.add_assoc]
  · show wrap64 (wrap64 (a * b) * c) = wrap64 (a * wrap64 (b * c))
    rw [wrap_mul_l, wrap_mul_r, Int.mul_assoc]
  · show min (min a b) c = min a (min b c)
    rw [Int.min_assoc]
  · show max (max a b) c = max a (max b c)
    rw [Int.max_assoc]
  · show (a * b) * c = a * (b * c)
    rw [Int.mul_assoc]
  · show max (max a b) c = max a (max b c)
    rw [Int.max_assoc]
theorem unit_l {f y : Int} (h : scansB f = true) (hy : In64 y) (h1 : refusesB f (unitF f).1 y = false) : dyv f (unitF f).1 y = y := by
  unfold In64 at hy
  rcases scans_cases h with rfl | rfl | rfl | rfl | rfl | rfl
  · show wrap64 (0 + y) = y
    rw [Int.zero_add]; exact wrap_id hy
  · show wrap64 (1 * y) = y
    rw [Int.one_mul]; exact wrap_id hy
  · show min 9223372036854775807 y = y
    omega
  · show max (-9223372036854775808) y = y
    omega
  · show 1 * y = y
    omega
  · have hb := (ref15 h1).2
    show max 0 y = y
    unfold isBit at hb; simp at hb; omega
theorem unit_r {f y : Int} (h : scansB f = true) (hy : In64 y) (h1 : refusesB f y (unitF f).1 = false) : dyv f y (unitF f).1 = y := by
  unfold In64 at hy
  rcases scans_cases h with rfl | rfl | rfl | rfl | rfl | rfl
  · show wrap64 (y + 0) = y
    rw [Int.add_zero]; exact wrap_id hy
  · show wrap64 (y * 1) = y
    rw [Int.mul_one]; exact wrap_id hy
  · show min y 9223372036854775807 = y
    omega
  · show max y (-9223372036854775808) = y
    omega
  · show y * 1 = y
    omega
  · have hb := (ref15 h1).1
    show max y 0 = y
    unfold isBit at hb; simp at hb; omega
theorem scans_total {f a b : Int} (h : scansB f = true) (h1 : refusesB f a b = true) : totalB f true = false := by
  rcases scans_cases h with rfl | rfl | rfl | rfl | rfl | rfl
  iterate 4
    · exact absurd h1 (by show ¬ (false = true); decide)
  · rfl
  · rfl
theorem parts_v {f : Int} {a : List Int} (hs : scansB f = true) (ha : 0 < a.length) : ∀ b : List Int, 0 < b.length → (laneL f (a ++ b)).2 = false → (laneL f b).2 = false → refusesB f (vL f a) (vL f b) = false → vL f (a ++ b) = dyv f (vL f a) (vL f b) := by
  intro b
  induction b using snoc_ind with
  | h0 => intro h; simp at h
  | h1 b x ih =>
    intro _ hab hb hr
    rw [← List.append_assoc] at hab ⊢
    obtain ⟨p1, p2, p3⟩ := vL_snoc f (by simp; omega) hab
    rcases Nat.eq_zero_or_pos b.length with h0 | h0
    · obtain rfl : b = [] := List.eq_nil_of_length_eq_zero h0
      rw [List.append_nil] at p3
      rw [List.append_nil, p3]
      rfl
    · obtain ⟨q1, q2, q3⟩ := vL_snoc f h0 hb
      rw [q3] at hr ⊢
      have hr' := ref_l hs hr q2
      rw [p3, ih h0 p1 q1 hr', dy_assoc hs hr' q2]
theorem vF_in {f : Int} {l : List Int} (h : ∀ x ∈ l, In64 x) : In64 (vF f l) := by
  unfold vF
  refine ite_pred ?_ ?_
  · unfold unitF In64
    repeat' split
    all_goals (try dsimp only); (try omega)
  · unfold vL
    have hin := laneL_in f h
    cases hq : (laneL f l).1.getLast? with
    | none => rw [List.getLastD_eq_getLast?, hq]; exact In64.zero
    | some a => rw [List.getLastD_eq_getLast?, hq]; exact hin a (List.mem_of_getLast? hq)
theorem parts_f {f : Int} {a b : List Int} (hs : scansB f = true) (ia : ∀ x ∈ a, In64 x) (ib : ∀ x ∈ b, In64 x) (hab : (laneL f (a ++ b)).2 = false) (hb : (laneL f b).2 = false) (hr : refusesB f (vF f a) (vF f b) = false) :
    dyv f (vF f a) (vF f b) = vF f (a ++ b) := by
  have ja := vF_in (f := f) ia
  have jb := vF_in (f := f) ib
  rcases Nat.eq_zero_or_pos a.length with h0 | h0
  · obtain rfl : a = [] := List.eq_nil_of_length_eq_zero h0
    rw [List.nil_append]
    exact unit_l hs jb hr
  · rcases Nat.eq_zero_or_pos b.length with h1 | h1
    · obtain rfl : b = [] := List.eq_nil_of_length_eq_zero h1
      rw [List.append_nil]
      exact unit_r hs ja hr
    · have ea : vF f a = vL f a := by unfold vF; rw [if_neg (by omega)]
      have eb : vF f b = vL f b := by unfold vF; rw [if_neg (by omega)]
      have ec : vF f (a ++ b) = vL f (a ++ b) := by unfold vF; rw [if_neg (by rw [List.length_append]; omega)]
      rw [ea, eb] at hr ⊢
      rw [ec, parts_v hs h0 b h1 hab hb hr]
/-! vectors -/
theorem vec_right {d : List Int} (h : d.length ≤ 65536) : right [(d.length : Int)] d = true := right_one rfl h
theorem vec_lane {d : List Int} (h : d.length ≤ 65536) (h0 : 0 < d.length) : LaneF [(d.length : Int)] d [d] := by
  obtain ⟨lx, hl⟩ := lane_facts (vec_right h)
  have e : lx = [d] := flat_inj lx [d] hl.ne (fun y hy => by rw [List.mem_singleton.1 hy]; exact h0) (fun x hx y hy => by
    rw [List.mem_singleton.1 hy]
    have := hl.each x hx
    have e1 : lastOf [(d.length : Int)] = (d.length : Int) := rfl
    rw [e1] at this; omega) (by rw [hl.flat]; simp)
  rw [← e]; exact hl
theorem last_one (n : Int) : lastOf [n] = n := rfl
theorem fold_no {f : Int} {s d : List Int} (hr : right s d = true) (ht : takes f true = false) : foldA f s d = noA 70 := by unfold foldA; rw [if_pos hr, if_neg (by rw [ht]; decide)]
theorem scan_no {f : Int} {s d : List Int} (hr : right s d = true) (ht : takes f true = false) : scanA f s d = noA 70 := by unfold scanA; rw [if_pos hr, if_neg (by rw [ht]; decide)]
theorem fold_vec {f : Int} {d : List Int} (ht : takes f true = true) (h : d.length ≤ 65536) : foldA f [(d.length : Int)] d = if (laneL f d).2 then noA 11 else okA [] [vF f d] := by
  rcases Nat.eq_zero_or_pos d.length with h0 | h0
  · obtain rfl : d = [] := List.eq_nil_of_length_eq_zero h0
    obtain ⟨lx, hl⟩ := lane_facts (vec_right h)
    rw [foldA_eq (vec_right h) ht hl (by simp)]
    rfl
  · rw [foldA_eq (vec_right h) ht (vec_lane h h0) (by simp), last_one]
    have e1 : size ([(d.length : Int)].dropLast) = (1, 0) := rfl
    rw [e1, if_neg (by simp), if_neg (by omega)]
    have e2 : badL f [d] = (laneL f d).2 := by unfold badL; simp
    have e3 : vF f d = vL f d := by unfold vF; rw [if_neg (by omega)]
    cases hb : (laneL f d).2 with
    | true => rw [foldL_bad (by rw [e2, hb])]; rfl
    | false => rw [foldL_good (by rw [e2, hb]), e3]; rfl
theorem scan_vec {f : Int} {d : List Int} (ht : takes f true = true) (h : d.length ≤ 65536) : scanA f [(d.length : Int)] d = if (laneL f d).2 then noA 11 else okA [(d.length : Int)] (scanR f d) := by
  rcases Nat.eq_zero_or_pos d.length with h0 | h0
  · obtain rfl : d = [] := List.eq_nil_of_length_eq_zero h0
    obtain ⟨lx, hl⟩ := lane_facts (vec_right h)
    rw [scanA_eq (vec_right h) ht hl]
    have e : lx = [] := by
      rcases lx with _ | ⟨x, lx⟩
      · rfl
      · have h0 := hl.ne x (by simp)
        have e1 : x ++ lx.flatten = [] := hl.flat
        have e2 : x = [] := (List.append_eq_nil_iff.1 e1).1
        rw [e2] at h0
        exact absurd h0 (by decide)
    subst e
    rfl
  · rw [scanA_eq (vec_right h) ht (vec_lane h h0)]
    have e2 : badL f [d] = (laneL f d).2 := by unfold badL; simp
    cases hb : (laneL f d).2 with
    | true => rw [scanL_bad (by rw [e2, hb])]; rfl
    | false => rw [scanL_good (by rw [e2, hb])]; simp
theorem cat_vec {a b : List Int} (h : a.length + b.length ≤ 65536) : dyadA 40 [(a.length : Int)] a [(b.length : Int)] b = okA [((a ++ b).length : Int)] (a ++ b) := by
  unfold dyadA
  rw [vec_right (by omega), vec_right (by omega), if_pos (by rfl), if_neg (by decide), if_neg (by decide), if_neg (by decide), if_pos (by rfl)]
  unfold catA
  have e1 : ∀ x : Int, sided [x] = [x] := fun x => rfl
  rw [e1, e1, if_neg (by simp)]
  have e2 : [(a.length : Int)].headD 0 + [(b.length : Int)].headD 0 = ((a ++ b).length : Int) := by simp
  have e3 : [(a.length : Int)].tail = ([] : List Int) := rfl
  dsimp only
  rw [e2, e3]
  rw [if_neg (by rw [right_size (vec_right (d := a ++ b) (by rw [List.length_append]; omega))]; simp)]
theorem lane_bad_len {f : Int} {l : List Int} (h : (laneL f l).2 = true) : 1 < l.length := by
  rcases l with _ | ⟨x, _ | ⟨y, l⟩⟩
  · cases h
  · cases h
  · simp
theorem dy_num {f x y : Int} (ht : takes f true = true) : dyadA f [] [x] [] [y] = if refusesB f x y then noA 11 else okA [] [dyv f x y] := by
  rw [dy_two ht (right_nil1 x) (right_nil1 y), if_pos rfl]
  unfold pairsA
  simp
theorem scan_last {f : Int} {d : List Int} (h : 0 < d.length) : (scanR f d).getD (d.length - 1) 0 = vF f d := by
  rw [scanR_last f h]; unfold vF vL; rw [if_neg (by omega)]
theorem scanR_len (f : Int) (d : List Int) : (scanR f d).length = d.length := laneL_len f d
end Go.Proofs.Ytmjkncmpanhgjaa
