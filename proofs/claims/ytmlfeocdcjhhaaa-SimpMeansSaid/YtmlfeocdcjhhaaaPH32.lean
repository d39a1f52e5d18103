import Derived.Test.YtmlfeocdcjhhaaaPH1
namespace Go.Proofs.Ytmlfeocdcjhhaaa
set_option maxRecDepth 100000
open Go.RowKit
set_option linter.unusedVariables false
set_option linter.unusedSimpArgs false

/-- the first place from k on that p tells of, or -1 -/
def firstP (p : Int → Bool) : Nat → List Int → Int
  | _, [] => -1
  | k, x :: xs => if p x then k else firstP p (k + 1) xs

theorem firstP_step {p : Int → Bool} {k : Nat} {xs : List Int} (h : k < xs.length) : firstP p k (xs.drop k) = if p xs[k] then (k : Int) else firstP p (k + 1) (xs.drop (k + 1)) := by
  rw [List.drop_eq_getElem_cons h, firstP]

theorem firstP_nonneg {p : Int → Bool} : ∀ (xs : List Int) (k : Nat), decide (0 ≤ firstP p k xs) = xs.any p
  | [], k => by simp [firstP]
  | x :: xs, k => by
    rw [firstP]
    by_cases h : p x
    · simp [h]
    · simp [h, firstP_nonneg xs (k + 1)]

set_option maxHeartbeats 400000 in
theorem sindex_any (w : World) (a : Option Addr) (cap : Nat) (xs : List Int) (v : Int) (hm : xs.length ≤ maxLen) (h : IntsAt .i64 w a xs) :
    Calls Try.prog 148 #[.slice a xs.length cap, .int .i64 v] w fun e w' => e = .returned (.int .i64 (firstP (v == ·) 0 xs)) ∧ w = w' := by
  unfold maxLen at hm
  go_enter Try.func148, Try.ntmps148
  go_wp2
  go_loop [8] (fun i => ∃ k : Nat, k ≤ xs.length ∧ i = .int .i64 k ∧ firstP (v == ·) 0 xs = firstP (v == ·) k (xs.drop k)) (fun i => xs.length - (intOf i).toNat)
  case atStart => exact ⟨0, Nat.zero_le _, rfl, rfl⟩
  case round =>
    obtain ⟨k, hk, rfl, hr⟩ := hrel
    by_cases hlt : k < xs.length
    · obtain ⟨b, off, rfl, hc⟩ := h k hlt
      rw [firstP_step hlt] at hr
      have Hr := Lib.hid hr; clear hr h
      by_cases hv : (v == xs[k]) = true
      · go_wp2
        go_ret
        exact ⟨ret_int (by rw [Hr.out, if_pos hv]), rfl⟩
      · have hv' : (v == xs[k]) = false := by simpa using hv
        go_wp2
        go_round
        case rel => exact ⟨k + 1, by omega, by go_num, by rw [Hr.out, if_neg hv]⟩
        case measure => simp [intOf]; omega
    · have Hr := Lib.hid hr; clear hr h
      go_wp2
      go_ret
      exact ⟨ret_int (by rw [Hr.out, List.drop_eq_nil_of_le (by omega)]; rfl), rfl⟩

set_option maxHeartbeats 400000 in
theorem contains_any (w : World) (a : Option Addr) (cap : Nat) (xs : List Int) (v : Int) (hm : xs.length ≤ maxLen) (h : IntsAt .i64 w a xs) :
    Calls Try.prog 122 #[.slice a xs.length cap, .int .i64 v] w fun e w' => e = .returned (.bool (xs.any (v == ·))) ∧ w = w' := by
  go_enter Try.func122, Try.ntmps122
  go_wp2_with (go_at_call 148; refine (sindex_any _ a cap xs v hm h).mono ?_; rintro e w' ⟨rfl, rfl⟩)
  go_ret
  exact ⟨ret_bool (firstP_nonneg _ _), rfl⟩

set_option maxHeartbeats 400000 in
theorem indexFunc_any (w : World) (a : Option Addr) (cap : Nat) (xs : List Int) (g : FuncId) (cs : Array Value) (p : Int → Bool) (hg : ∀ args w, (callFunc g args).run Try.prog w = .ok (.enter g args) w) (hm : xs.length ≤ maxLen) (h : IntsAt .i64 w a xs)
    (hp : ∀ x ∈ xs, ∀ w', Below w.heap.size w w' → Calls Try.prog g (#[.int .i64 x] ++ cs) w' fun e w'' => e = .returned (.bool (p x)) ∧ Below w.heap.size w' w'') :
    Calls Try.prog 120 #[.slice a xs.length cap, .func (.func g) #[] cs] w fun e w' => e = .returned (.int .i64 (firstP p 0 xs)) ∧ Below w.heap.size w w' := by
  unfold maxLen at hm
  go_enter Try.func120, Try.ntmps120
  go_wp2
  go_loopw [8] (fun i wr => ∃ k : Nat, k ≤ xs.length ∧ i = .int .i64 k ∧ firstP p 0 xs = firstP p k (xs.drop k) ∧ Below w.heap.size w wr) (fun i _ => xs.length - (intOf i).toNat)
  case atStart => exact ⟨0, Nat.zero_le _, rfl, rfl, Below.refl _ _⟩
  case round =>
    obtain ⟨k, hk, rfl, hr, hbel⟩ := hrel
    by_cases hlt : k < xs.length
    · obtain ⟨b, off, rfl, hc⟩ := (h.below hbel (Nat.le_refl _)) k hlt
      rw [firstP_step hlt] at hr
      have Hr := Lib.hid hr; clear hr h
      have hq := Lib.hid (hp xs[k] (List.getElem_mem hlt) wr hbel)
      clear hp
      by_cases hv : p xs[k] = true
      · rw [hv] at hq
        go_wp2_with (refine hq.out.mono ?_; rintro e w' ⟨rfl, hb1⟩)
        go_ret
        exact ⟨ret_int (by rw [Hr.out, if_pos hv]), hbel.trans hb1⟩
      · have hv' : p xs[k] = false := by simpa using hv
        rw [hv'] at hq
        go_wp2_with (refine hq.out.mono ?_; rintro e w' ⟨rfl, hb1⟩)
        go_roundw
        case rel => exact ⟨k + 1, by omega, by go_num, by rw [Hr.out, if_neg hv], hbel.trans hb1⟩
        case measure => simp [intOf]; omega
    · have Hr := Lib.hid hr; clear hr h hp
      go_wp2
      go_ret
      exact ⟨ret_int (by rw [Hr.out, List.drop_eq_nil_of_le (by omega)]; rfl), hbel⟩

set_option maxHeartbeats 400000 in
theorem containsFunc_any (w : World) (a : Option Addr) (cap : Nat) (xs : List Int) (g : FuncId) (cs : Array Value) (p : Int → Bool) (hg : ∀ args w, (callFunc g args).run Try.prog w = .ok (.enter g args) w) (hm : xs.length ≤ maxLen) (h : IntsAt .i64 w a xs)
    (hp : ∀ x ∈ xs, ∀ w', Below w.heap.size w w' → Calls Try.prog g (#[.int .i64 x] ++ cs) w' fun e w'' => e = .returned (.bool (p x)) ∧ Below w.heap.size w' w'') :
    Calls Try.prog 68 #[.slice a xs.length cap, .func (.func g) #[] cs] w fun e w' => e = .returned (.bool (xs.any p)) ∧ Below w.heap.size w w' := by
  have hq := Lib.hid (indexFunc_any w a cap xs g cs p hg hm h hp)
  clear hp h
  go_enter Try.func68, Try.ntmps68
  go_wp2_with (go_at_call 120; refine hq.out.mono ?_; rintro e w' ⟨rfl, hb1⟩)
  go_ret
  exact ⟨ret_bool (firstP_nonneg _ _), hb1⟩


def badSide (s : Int) : Bool := decide (s < 0) || decide (65536 < s)

theorem badSide_false {s : Int} (h : badSide s = false) : 0 ≤ s ∧ s ≤ 65536 := by
  simp [badSide] at h; exact h

/-- the product from n on, or too great -/
def prodTo : Int → List Int → Int × Int
  | n, [] => (n, 0)
  | n, s :: r => if 65536 < n * s then (0, 61) else prodTo (n * s) r

/-- how many numbers an array of these sides has -/
def size (xs : List Int) : Int × Int :=
  if 4 < xs.length then (0, 61) else if xs.any badSide then (0, 61) else if xs.any ((0 : Int) == ·) then (0, 0) else prodTo 1 xs

theorem prodTo_step {n : Int} {k : Nat} {xs : List Int} (h : k < xs.length) :
    prodTo n (xs.drop k) = if 65536 < n * xs[k] then (0, 61) else prodTo (n * xs[k]) (xs.drop (k + 1)) := by
  rw [List.drop_eq_getElem_cons h, prodTo]

theorem any_false_get {p : Int → Bool} {xs : List Int} (h : xs.any p = false) (k : Nat) (hk : k < xs.length) : p xs[k] = false := by
  rw [List.any_eq_false] at h
  simpa using h xs[k] (List.getElem_mem hk)

theorem mul_bd6 {a b : Int} (h1 : 0 ≤ a) (h2 : a ≤ 65536) (h3 : 0 ≤ b) (h4 : b ≤ 65536) : 0 ≤ a * b ∧ a * b ≤ 4294967296 := by
  refine ⟨Int.mul_nonneg h1 h3, ?_⟩
  have := Int.mul_le_mul h2 h4 h3 (by omega : (0 : Int) ≤ 65536)
  omega

def prodL : List Int → Int
  | [] => 1
  | s :: r => s * prodL r

/-- a place by sides, from n on -/
def placeTo : Int → List Int → List Int → Int × Int
  | n, s :: ss, k :: ks => if k < 0 ∨ s ≤ k then (0, 62) else placeTo (n * s + k) ss ks
  | n, _, _ => (n, 0)

/-- where a number stands in the list -/
def place (sides index : List Int) : Int × Int :=
  if (size sides).2 = 0 then (if index.length = sides.length then placeTo 0 sides index else (0, 62)) else (0, (size sides).2)

/-- the index by sides of the number at place p -/
def idx : List Int → Int → List Int
  | [], _ => []
  | s :: r, p => (p / prodL r) % s :: idx r p

/-- where the number at a place of the list stands by the sides -/
def index (sides : List Int) (p : Int) : List Int × Int :=
  if (size sides).2 = 0 then (if p < 0 ∨ (size sides).1 ≤ p then ([], 62) else (idx sides p, 0)) else ([], (size sides).2)

set_option maxHeartbeats 400000 in
theorem size1_any (w : World) (s : Int) : Calls Try.prog 123 #[.int .i64 s] w fun e w' => e = .returned (.bool (badSide s)) ∧ w = w' := by
  by_cases h : s < 0
  · go_enter Try.func123, Try.ntmps123
    go_wp2
    go_ret
    exact ⟨ret_bool (by simp [badSide, h]), rfl⟩
  · have h' : decide (s < 0) = false := by simpa using h
    go_enter Try.func123, Try.ntmps123
    go_wp2
    go_ret
    exact ⟨ret_bool (by simp only [badSide, h']; rfl), rfl⟩

theorem size1_all (xs : List Int) (w : World) : ∀ x ∈ xs, ∀ w', Below w.heap.size w w' → Calls Try.prog 123 (#[.int .i64 x] ++ #[]) w' fun e w'' => e = .returned (.bool (badSide x)) ∧ Below w.heap.size w' w'' :=
  fun x _ w' _ => (size1_any w' x).mono fun _ _ ⟨he, hw⟩ => ⟨he, hw ▸ Below.refl _ _⟩

theorem size1_in (args : Array Value) (w : World) : (callFunc 123 args).run Try.prog w = .ok (.enter 123 args) w :=
  callFunc_enter Try.func123 (by kernel_rfl) rfl args w

set_option maxHeartbeats 800000 in
theorem asize_any (w : World) (a : Option Addr) (cap : Nat) (xs : List Int) (hm : xs.length ≤ maxLen) (h : IntsAt .i64 w a xs) :
    Calls Try.prog 71 #[.slice a xs.length cap] w fun e w' => e = two (size xs) ∧ Below w.heap.size w w' := by
  have hq := containsFunc_any w a cap xs 123 #[] badSide size1_in hm h (size1_all xs w)
  have hsz : size xs = size xs := rfl
  conv at hsz => rhs; unfold size
  have Hsz := Lib.hid hsz; clear hsz
  unfold maxLen at hm
  by_cases h4 : (4 : Int) < (xs.length : Int)
  · clear hq h
    go_enter Try.func71, Try.ntmps71
    go_wp2
    go_ret2
    exact ⟨ret_two (by rw [Hsz.out, if_pos (by omega)]), Below.refl _ _⟩
  · have h4' : decide ((4 : Int) < (xs.length : Int)) = false := by simpa using h4
    cases hb : xs.any badSide with
    | true =>
      rw [hb] at hq
      have Hq := Lib.hid hq; have Hb := Lib.hid hb
      clear hq h hb
      go_enter Try.func71, Try.ntmps71
      go_wp2_with (go_at_call 68; refine Hq.out.mono ?_; rintro e w' ⟨rfl, hb1⟩)
      go_ret2
      exact ⟨ret_two (by rw [Hsz.out, if_neg (by omega), if_pos Hb.out]), hb1⟩
    | false =>
      rw [hb] at hq
      have Hq := Lib.hid hq; have Hb := Lib.hid hb
      clear hq hb
      have hc := fun w' (hw : Below w.heap.size w w') => contains_any w' a cap xs 0 hm (h.below hw (Nat.le_refl _))
      cases hz : xs.any ((0 : Int) == ·) with
      | true =>
        rw [hz] at hc
        have Hc := Lib.hid hc; have Hz := Lib.hid hz
        clear hc hz h
        go_enter Try.func71, Try.ntmps71
        go_wp2_with (first
          | (go_at_call 68; refine Hq.out.mono ?_; rintro e w1 ⟨rfl, hb1⟩)
          | (go_at_call 122; refine (Hc.out _ (by assumption)).mono ?_; rintro e w2 ⟨rfl, rfl⟩))
        go_ret2
        exact ⟨ret_two (by rw [Hsz.out, if_neg (by omega), if_neg (by rw [Hb.out]; simp), if_pos Hz.out]), by assumption⟩
      | false =>
        rw [hz] at hc
        have Hc := Lib.hid hc; have Hz := Lib.hid hz
        have Hsz2 : Hid (size xs = prodTo 1 xs) := by
          unfold Hid; rw [Hsz.out, if_neg (by omega), if_neg (by rw [Hb.out]; simp), if_neg (by rw [hz]; simp)]
        clear hc hz
        have HI := Lib.hid h; clear h
        go_enter Try.func71, Try.ntmps71
        go_wp2_with (first
          | (go_at_call 68; refine Hq.out.mono ?_; rintro e w1 ⟨rfl, hb1⟩)
          | (go_at_call 122; refine (Hc.out _ (by assumption)).mono ?_; rintro e w2 ⟨rfl, rfl⟩))
        go_loop [4, 18] (fun n i => ∃ (k : Nat) (m : Int), k ≤ xs.length ∧ i = .int .i64 k ∧ n = .int .i64 m ∧ 0 ≤ m ∧ m ≤ 65536 ∧ size xs = prodTo m (xs.drop k)) (fun _ i => xs.length - (intOf i).toNat)
        case atStart => exact ⟨0, 1, Nat.zero_le _, rfl, rfl, by omega, by omega, by simpa using Hsz2.out⟩
        case round =>
          obtain ⟨k, m, hk, rfl, rfl, hm0, hm1, hr⟩ := hrel
          by_cases hlt : k < xs.length
          · obtain ⟨b, off, rfl, hcell⟩ := (HI.out.below hb1 (Nat.le_refl _)) k hlt
            rw [prodTo_step hlt] at hr
            obtain ⟨hs0, hs1⟩ := badSide_false (any_false_get Hb.out k hlt)
            obtain ⟨hp0, hp1⟩ := mul_bd6 hm0 hm1 hs0 hs1
            have Hr := Lib.hid hr; clear hr
            by_cases hgt : 65536 < m * xs[k]
            · go_wp2
              go_ret2
              exact ⟨ret_two (by rw [Hr.out, if_pos hgt]), hb1⟩
            · go_wp2
              go_round
              case rel => exact ⟨k + 1, m * xs[k], by omega, by go_num, rfl, hp0, by omega, by rw [Hr.out, if_neg hgt]⟩
              case measure => simp [intOf]; omega
          · have Hr := Lib.hid hr; clear hr
            go_wp2
            go_ret2
            exact ⟨ret_two (by rw [Hr.out, List.drop_eq_nil_of_le (by omega)]; rfl), hb1⟩
/-- is this an array? -/
def right (s d : List Int) : Bool := (size s).2 == 0 && (size s).1 == (d.length : Int)

set_option maxHeartbeats 400000 in
theorem aright_any (w : World) (a0 a1 : Option Addr) (c0 c1 : Nat) (s d : List Int) (hm : s.length ≤ maxLen) (h : IntsAt .i64 w a0 s) :
    Calls Try.prog 72 #[.agg #[.slice a0 s.length c0, .slice a1 d.length c1]] w fun e w' => e = .returned (.bool (right s d)) ∧ Below w.heap.size w w' := by
  have hq := fun o => asize_any (w.alloc o) a0 c0 s hm (h.below ((Below.refl _ w).alloc (Nat.le_refl _) o) (Nat.le_refl _))
  have hr : right s d = ((size s).2 == 0 && (size s).1 == (d.length : Int)) := rfl
  unfold maxLen at hm
  unfold two at hq
  generalize size s = p at hq hr
  obtain ⟨n, er⟩ := p
  have Hq := Lib.hid hq; have Hr := Lib.hid hr; clear hq hr
  by_cases he : er = 0
  · subst he
    by_cases hn : n = d.length
    all_goals
      go_enter Try.func72, Try.ntmps72
      go_wp2_with (go_at_call 71; refine (Hq.out _).mono ?_; rintro e w1 ⟨rfl, hb1⟩; obtain ⟨hc1, hf1⟩ := bcell hb1)
      go_ret
      exact ⟨ret_bool (by rw [Hr.out]; simp [hn]), ((Below.refl _ _).alloc (Nat.le_refl _) _).trans (hb1.mono (by simp))⟩
  · have he' : (er == 0) = false := by simpa using he
    go_enter Try.func72, Try.ntmps72
    go_wp2_with (go_at_call 71; refine (Hq.out _).mono ?_; rintro e w1 ⟨rfl, hb1⟩; obtain ⟨hc1, hf1⟩ := bcell hb1)
    go_ret
    exact ⟨ret_bool (by rw [Hr.out]; simp [he']), ((Below.refl _ _).alloc (Nat.le_refl _) _).trans (hb1.mono (by simp))⟩

/-- the same numbers? -/
def ints (xs ys : List Int) : Bool := decide (xs = ys)

theorem take_eq_all {xs ys : List Int} {k : Nat} (hl : xs.length = ys.length) (hk : k < xs.length) (h : xs.take k = ys.take k) (he : xs[k] = ys[k]'(hl ▸ hk)) : xs.take (k + 1) = ys.take (k + 1) := by
  rw [List.take_succ_eq_append_getElem hk, List.take_succ_eq_append_getElem (hl ▸ hk), h, he]

set_option maxHeartbeats 400000 in
theorem ints_any (w : World) (a b : Option Addr) (c d : Nat) (xs ys : List Int) (hm : xs.length ≤ maxLen) (hm2 : ys.length ≤ maxLen) (h : IntsAt .i64 w a xs) (h2 : IntsAt .i64 w b ys) :
    Calls Try.prog 84 #[.slice a xs.length c, .slice b ys.length d] w (SaysB (ints xs ys) w) := by
  unfold maxLen at hm hm2
  have HI := Lib.hid h; have HJ := Lib.hid h2; clear h h2
  by_cases hl : xs.length = ys.length
  · have hl' : ((xs.length : Int) != (ys.length : Int)) = false := by simp [hl]
    have Hl := Lib.hid hl; clear hl
    go_enter Try.func84, Try.ntmps84
    go_wp2
    go_loopw [5] (fun i wr => ∃ (k n : Nat), k ≤ xs.length ∧ i = .int .i64 k ∧ xs.take k = ys.take k ∧ wr = w.drewN n) (fun i _ => xs.length - (intOf i).toNat)
    case atStart => exact ⟨0, 0, Nat.zero_le _, rfl, rfl, rfl⟩
    case round =>
      obtain ⟨k, n, hk, rfl, ht, rfl⟩ := hrel
      have Ht := Lib.hid ht; clear ht
      by_cases hlt : k < xs.length
      · have hlt2 : k < ys.length := Hl.out ▸ hlt
        obtain ⟨b0, off, rfl, hcell⟩ := HI.out k hlt
        obtain ⟨b2, off2, rfl, hcell2⟩ := HJ.out k hlt2
        have hz0 : (0 : Int) ≤ (k : Int) := by omega
        have hz1 : (k : Int) < (xs.length : Int) := by omega
        have hz2 : (k : Int) < (ys.length : Int) := by omega
        by_cases hne : xs[k] = ys[k]
        · have hne' : (xs[k] != ys[k]) = false := by simpa using hne
          have Hne := Lib.hid hne; clear hne
          go_wp2_with fail
          go_quiet (fail)
          go_wp2
          go_roundw
          case rel => exact ⟨k + 1, _, by omega, by go_num, take_eq_all Hl.out hlt Ht.out Hne.out, rfl⟩
          case measure => simp [intOf]; omega
        · have hne' : (xs[k] != ys[k]) = true := by simpa using hne
          go_wp2_with fail
          go_quiet (fail)
          go_wp2
          go_ret
          refine SaysB.drewN (SaysB.mk ?_)
          have : xs ≠ ys := fun e => hne (by subst e; rfl)
          simp [ints, this]
      · go_wp2
        go_ret
        refine SaysB.mk ?_
        have ht := Ht.out
        rw [List.take_of_length_le (by omega), List.take_of_length_le (by rw [← Hl.out]; omega)] at ht
        simp [ints, ht]
  · have hl' : ((xs.length : Int) != (ys.length : Int)) = true := by simp; omega
    go_enter Try.func84, Try.ntmps84
    go_wp2
    go_ret
    refine SaysB.mk0 ?_
    have : xs ≠ ys := fun e => hl (by rw [e])
    simp [ints, this]

set_option maxHeartbeats 800000 in
theorem asame_any (w : World) (a0 a1 b0 b1 : Option Addr) (c0 c1 d0 d1 : Nat) (s d t e : List Int) (hs : s.length ≤ maxLen) (hd : d.length ≤ maxLen) (ht : t.length ≤ maxLen) (he : e.length ≤ maxLen)
    (h0 : IntsAt .i64 w a0 s) (h1 : IntsAt .i64 w a1 d) (k0 : IntsAt .i64 w b0 t) (k1 : IntsAt .i64 w b1 e) :
    Calls Try.prog 45 #[.agg #[.slice a0 s.length c0, .slice a1 d.length c1], .agg #[.slice b0 t.length d0, .slice b1 e.length d1]] w
      fun x w' => x = .returned (.bool (ints s t && ints d e)) ∧ Below w.heap.size w w' := by
  have HS := Lib.hid (fun w' (hb : Below w.heap.size w w') => ints_any w' a0 b0 c0 d0 s t hs ht (h0.below hb (Nat.le_refl _)) (k0.below hb (Nat.le_refl _)))
  have HD := Lib.hid (fun w' (hb : Below w.heap.size w w') => ints_any w' a1 b1 c1 d1 d e hd he (h1.below hb (Nat.le_refl _)) (k1.below hb (Nat.le_refl _)))
  clear h0 h1 k0 k1
  have hb2 : ∀ o o', Below w.heap.size w ((w.alloc o).alloc o') := fun o o' => ((Below.refl _ _).alloc (Nat.le_refl _) _).alloc (by simp) _
  cases hx : ints s t with
  | false =>
    have Hx := Lib.hid hx; clear hx
    have Hb := Lib.hid hb2; clear hb2
    go_enter Try.func45, Try.ntmps45
    go_wp2_with (go_at_call 84; refine (HS.out _ (Hb.out _ _)).mono ?_; rintro x w' ⟨hx, n, rfl⟩; rw [Hx.out] at hx; subst hx)
    go_ret
    exact ⟨rfl, (Hb.out _ _).trans (Below.drewN _ _)⟩
  | true =>
    have Hx := Lib.hid hx; clear hx
    have Hb := Lib.hid hb2; clear hb2
    go_enter Try.func45, Try.ntmps45
    go_wp2_with fail
    refine (HS.out _ (Hb.out _ _)).mono ?_
    rintro x w' ⟨hx, n, rfl⟩
    rw [Hx.out] at hx
    subst hx
    go_wp2_with fail
    refine (HD.out _ ((Hb.out _ _).trans (Below.drewN _ _))).mono ?_
    rintro x w' ⟨rfl, m, rfl⟩
    go_wp2_with fail
    go_ret
    exact ⟨rfl, (Hb.out _ _).trans (Below.drewN _ _)⟩
set_option maxHeartbeats 400000 in
theorem equal_any (w : World) (a b : Option Addr) (c d : Nat) (xs ys : List Int) (hm : xs.length ≤ maxLen) (hm2 : ys.length ≤ maxLen) (h : IntsAt .i64 w a xs) (h2 : IntsAt .i64 w b ys) :
    Calls Try.prog 73 #[.slice a xs.length c, .slice b ys.length d] w (SaysB (ints xs ys) w) := by
  unfold maxLen at hm hm2
  have HI := Lib.hid h; have HJ := Lib.hid h2; clear h h2
  by_cases hl : xs.length = ys.length
  · have hl' : ((xs.length : Int) != (ys.length : Int)) = false := by simp [hl]
    have Hl := Lib.hid hl; clear hl
    go_enter Try.func73, Try.ntmps73
    go_wp2_with fail
    go_loopw [13] (fun i wr => ∃ (k n : Nat), k ≤ xs.length ∧ i = .int .i64 k ∧ xs.take k = ys.take k ∧ wr = w.drewN n) (fun i _ => xs.length - (intOf i).toNat)
    case atStart => exact ⟨0, 0, Nat.zero_le _, rfl, rfl, rfl⟩
    case round =>
      obtain ⟨k, n, hk, rfl, ht, rfl⟩ := hrel
      have Ht := Lib.hid ht; clear ht
      by_cases hlt : k < xs.length
      · have hlt2 : k < ys.length := Hl.out ▸ hlt
        obtain ⟨b0, off, rfl, hcell⟩ := HI.out k hlt
        obtain ⟨b2, off2, rfl, hcell2⟩ := HJ.out k hlt2
        have hz0 : (0 : Int) ≤ (k : Int) := by omega
        have hz1 : (k : Int) < (xs.length : Int) := by omega
        have hz2 : (k : Int) < (ys.length : Int) := by omega
        by_cases hne : xs[k] = ys[k]
        · have hne' : (xs[k] != ys[k]) = false := by simpa using hne
          have Hne := Lib.hid hne; clear hne
          go_wp2_with fail
          go_quiet (fail)
          go_wp2_with fail
          go_roundw
          case rel => exact ⟨k + 1, _, by omega, by go_num, take_eq_all Hl.out hlt Ht.out Hne.out, rfl⟩
          case measure => simp [intOf]; omega
        · have hne' : (xs[k] != ys[k]) = true := by simpa using hne
          go_wp2_with fail
          go_quiet (fail)
          go_wp2_with fail
          go_ret
          refine SaysB.drewN (SaysB.mk ?_)
          have : xs ≠ ys := fun e => hne (by subst e; rfl)
          simp [ints, this]
      · go_wp2_with fail
        go_ret
        refine SaysB.mk ?_
        have ht := Ht.out
        rw [List.take_of_length_le (by omega), List.take_of_length_le (by rw [← Hl.out]; omega)] at ht
        simp [ints, ht]
  · have hl' : ((xs.length : Int) != (ys.length : Int)) = true := by simp; omega
    go_enter Try.func73, Try.ntmps73
    go_wp2_with fail
    go_ret
    refine SaysB.mk0 ?_
    have : xs ≠ ys := fun e => hl (by rw [e])
    simp [ints, this]
end Go.Proofs.Ytmlfeocdcjhhaaa
