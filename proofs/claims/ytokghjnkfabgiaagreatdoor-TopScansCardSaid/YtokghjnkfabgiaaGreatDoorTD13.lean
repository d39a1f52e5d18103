import Derived.Test.YtokghjnkfabgiaaGreatDoorTD9
import Derived.Test.YtokghjnkfabgiaaGreatDoorTD11
import Derived.Test.YtokghjnkfabgiaaGreatDoorTD12
import Derived.Lib.LaidTab
import Derived.Lib.AtoiErrMem
set_option linter.unusedVariables false
set_option linter.unusedSimpArgs false
set_option maxRecDepth 100000
namespace Go.Proofs.YtokghjnkfabgiaaGreatDoor
open Go.RowKit Go.Lib

theorem tab_below {n : String} {k : IntKind} {zs : List Int} {w w' : World} (h : TabIs Tryz.prog w n k zs) (hb : Below w.heap.size w w') : TabIs Tryz.prog w' n k zs := by
 unfold TabIs World.var? at h ⊢
 cases hg : Tryz.prog.globalNamed n with
 | none => rw [hg] at h; cases h
 | some g =>
  rw [hg] at h
  simp only [Option.bind_some] at h ⊢
  have hlt : g < w.heap.size := by
   rcases Nat.lt_or_ge g w.heap.size with h' | h'
   ·exact h'
   ·rw [Array.getElem?_eq_none h'] at h; cases h
  rw [hb.block g hlt]
  exact h
structure TabT (w : World) : Prop where
 space : TabIs Tryz.prog w "strings.asciiSpace" .u8 asciiSpaceTab
 pow : TabIs Tryz.prog w "internal/strconv.uint64pow10" .u64 pow10Tab
 maxlen : ∃ m, w.cell? ⟨2, 0, none⟩ = some (.int .i64 m)
 range : ∃ ev, w.cell? ⟨7, 0, none⟩ = some ev ∧ (ev = .nilIface ∨ ∃ te pe, ev = .iface te pe)
theorem TabT.below {w w' : World} (h : TabT w) (hb : Below w.heap.size w w') : TabT w' := by
 obtain ⟨h1, h2, ⟨m, h3⟩, ev, h4, h5⟩ := h
 exact ⟨tab_below h1 hb, tab_below h2 hb, ⟨m, (hb.cell (World.block_lt_of_cell? _ _ h3)).trans h3⟩, ev, (hb.cell (World.block_lt_of_cell? _ _ h4)).trans h4, h5⟩
theorem prefix_c (a b : Str) (w : World) : Calls Tryz.prog 73 #[.string (str a), .string (str b)] w fun e w' => e = .returned (.bool (b.isPrefixOf a)) ∧ w' = w := Tryz.strings_HasPrefix (str a) (str b) w
theorem index_pos : ∀ (l : Str) (c : UInt8), 0 ≤ indexByte l c ↔ c ∈ l
 | [], c => by simp [indexByte]
 | b :: l, c => by
  rw [indexByte]
  have ih := index_pos l c
  by_cases hb : b = c
  ·rw [if_pos (by simpa using hb)]; simp [hb]
  ·rw [if_neg (by simpa using hb)]
   by_cases h1 : indexByte l c = -1
   ·rw [if_pos (by simpa using h1)]
    have : ¬ c ∈ l := fun h => by have := ih.2 h; omega
    simp [this, Ne.symm hb]
   ·have h2 : 0 ≤ indexByte l c ∨ indexByte l c < -1 := by omega
    rw [if_neg (by simpa using h1)]
    have h3 : -1 ≤ indexByte l c := by
     clear ih h1 h2 hb
     induction l with
     | nil => exact Int.le_refl _
     | cons x l ih => rw [indexByte]; split; omega; split <;> omega
    have : c ∈ l := ih.1 (by omega)
    simp [this]
    omega
theorem index_c (a : Str) (c : UInt8) (w : World) : Calls Tryz.prog 74 #[.string (str a), .int .u8 (c.toNat : Int)] w fun e w' => e = .returned (.int .i64 (indexByte a c)) ∧ w' = w := by
 have h := Tryz.strings_IndexByte (str a) (c.toNat : Int) w
 have e : ((c.toNat : Int)).toNat.toUInt8 = c := by simp
 rw [e] at h
 exact h
theorem parse_c (minus : Bool) (d : Str) (w : World) (ht : TabT w) (hd : ∀ b ∈ d, isDigit b = true) (hne : d ≠ []) (hl : d.length ≤ 65536) :
  Calls Tryz.prog 72 #[.string (str (if minus then 45 :: d else d)), .int .i64 10, .int .i64 64] w fun e w' => ∃ v r, e = .returned (.tuple #[.int .i64 v, r]) ∧ Below w.heap.size w w' ∧
   (if in64B (if minus then -(decV d : Int) else (decV d : Int)) = true then v = (if minus then -(decV d : Int) else (decV d : Int)) ∧ r = .nilIface else ∃ N, r = .iface 228 (.pointer (some N))) := by
 have hp : parseIntB 64 (if minus then 45 :: d else d) = if in64B (if minus then -(decV d : Int) else (decV d : Int)) = true then .ok (if minus then -(decV d : Int) else (decV d : Int)) else .range := by
  cases minus
  ·exact int_digits hd hne
  ·exact int_minus hd hne
 have hsz : (str (if minus then 45 :: d else d)).size ≤ 65537 := by
  rw [str_size]
  cases minus
  ·show d.length ≤ 65537; omega
  ·show (45 :: d).length ≤ 65537; simp; omega
 generalize (if minus then -(decV d : Int) else (decV d : Int)) = v at hp ⊢
 generalize (if minus then 45 :: d else d) = s at hp hsz ⊢
 by_cases hi : in64B v = true
 ·rw [if_pos hi] at hp
  refine (Tryz.strconv_ParseInt_10_at64_ok (str s) (by omega) v hp w).mono ?_
  rintro e w' ⟨rfl, hw⟩
  refine ⟨v, .nilIface, rfl, ?_, by rw [if_pos hi]; exact ⟨rfl, rfl⟩⟩
  rcases hw with rfl | ⟨t, rfl⟩
  ·exact Below.refl _ _
  ·exact bytesWorld_below _ _ _
 ·rw [if_neg hi] at hp
  obtain ⟨ev, h1, h2⟩ := ht.range
  refine (Tryz.strconv_ParseInt_10_at64_range (str s) (by omega) hp ev w h1 h2).mono ?_
  rintro e w' ⟨N, rfl, -, -, hb⟩
  exact ⟨_, _, rfl, hb, by rw [if_neg hi]; exact ⟨_, rfl⟩⟩
end Go.Proofs.YtokghjnkfabgiaaGreatDoor

namespace Go.Proofs.YtokghjnkfabgiaaGreatDoor
open Go.RowKit Go.Lib
attribute [local go_sem] str_size str_get
attribute [local go_sem high] run_str_from run_str_to run_str_add

theorem signN_spec (b : UInt8) (r : Str) : signN b r = if ([60, 61] : Str).isPrefixOf (b :: r) = true ∨ ([62, 61] : Str).isPrefixOf (b :: r) = true then 2 else if 0 ≤ indexByte [43, 45, 42, 37, 124, 61, 126, 60, 62, 47, 92, 46, 58, 40, 41] b then 1 else 0 := by
 have hp : ∀ x : UInt8, ([x, 61] : Str).isPrefixOf (b :: r) = true ↔ b = x ∧ r.head? = some 61 := by
  intro x
  cases r with
  | nil => simp [List.isPrefixOf]
  | cons c r =>
   simp only [List.isPrefixOf, List.head?_cons, Option.some.injEq, Bool.and_eq_true, beq_iff_eq, Bool.and_true]
   exact ⟨fun ⟨h1, h2⟩ => ⟨h1.symm, h2.symm⟩, fun ⟨h1, h2⟩ => ⟨h1.symm, h2.symm⟩⟩
 unfold signN
 have h1 : ((b = 60 ∨ b = 62) ∧ r.head? = some 61) ↔ (([60, 61] : Str).isPrefixOf (b :: r) = true ∨ ([62, 61] : Str).isPrefixOf (b :: r) = true) := by
  rw [hp, hp]
  constructor
  ·rintro ⟨h | h, h2⟩
   ·exact .inl ⟨h, h2⟩
   ·exact .inr ⟨h, h2⟩
  ·rintro (⟨h, h2⟩ | ⟨h, h2⟩)
   ·exact ⟨.inl h, h2⟩
   ·exact ⟨.inr h, h2⟩
 have h2 : isSignB b = true ↔ 0 ≤ indexByte [43, 45, 42, 37, 124, 61, 126, 60, 62, 47, 92, 46, 58, 40, 41] b := by
  rw [index_pos]
  unfold isSignB
  exact List.contains_iff_mem
 by_cases h : (([60, 61] : Str).isPrefixOf (b :: r) = true ∨ ([62, 61] : Str).isPrefixOf (b :: r) = true)
 ·rw [if_pos h, if_pos (h1.2 h)]
 ·rw [if_neg h, if_neg (fun e => h (h1.1 e))]
  by_cases h3 : isSignB b = true
  ·rw [if_pos h3, if_pos (h2.1 h3)]
  ·rw [if_neg h3, if_neg (fun e => h3 (h2.2 e))]
theorem sign_any (w : World) (b : UInt8) (r : Str) (hl : (b :: r).length ≤ 9223372036854775807) : Calls Tryz.prog 46 #[.string (str (b :: r))] w fun e w' => e = .returned (.int .i64 (signN b r)) ∧ w' = w := by
 have h1 := prefix_c (b :: r) [60, 61] w
 have h2 := prefix_c (b :: r) [62, 61] w
 have h3 := index_c [43, 45, 42, 37, 124, 61, 126, 60, 62, 47, 92, 46, 58, 40, 41] b w
 have hs := signN_spec b r
 generalize ([60, 61] : Str).isPrefixOf (b :: r) = p1 at h1 hs
 generalize ([62, 61] : Str).isPrefixOf (b :: r) = p2 at h2 hs
 generalize indexByte [43, 45, 42, 37, 124, 61, 126, 60, 62, 47, 92, 46, 58, 40, 41] b = ix at h3 hs
 have H1 := Lib.hid h1; have H2 := Lib.hid h2; have H3 := Lib.hid h3; have HS := Lib.hid hs
 clear h1 h2 h3 hs
 go_enter Tryz.func46, Tryz.ntmps46
 go_wp2_with (first
  | (go_at_call 73; refine H1.out.mono ?_; rintro e w' ⟨rfl, rfl⟩)
  | (go_at_call 73; refine H2.out.mono ?_; rintro e w' ⟨rfl, rfl⟩)
  | (go_at_call 74; refine H3.out.mono ?_; rintro e w' ⟨rfl, rfl⟩))
 all_goals (go_ret; refine ⟨ret_int ?_, rfl⟩; rw [HS.out]; simp_all <;> (try rw [if_neg (by omega)]) <;> rfl)
theorem results_t3 {fn : Func} {p q r : Tmp} (h : fn.results = #[.tmp p, .tmp q, .tmp r]) (tmps : Array Value) (w : World) {x y z : Value}
  (hp : tmps.getD p undef = x) (hq : tmps.getD q undef = y) (hr : tmps.getD r undef = z) : (results fn tmps).run Tryz.prog w = .ok (.tuple #[x, y, z]) w := by
 have hp' : tmps[p]?.getD undef = x := by simpa using hp
 have hq' : tmps[q]?.getD undef = y := by simpa using hq
 have hr' : tmps[r]?.getD undef = z := by simpa using hr
 simp [results, h, hp', hq', hr']
theorem mk_minus (l : Str) : ByteArray.mk #[45] ++ str l = str (45 :: l) := str_append [45] l
theorem mk_none (l : Str) : ByteArray.mk #[] ++ str l = str l := str_append [] l
attribute [local go_sem] mk_minus mk_none
theorem number_any (w : World) (ht : TabT w) (b : UInt8) (r : Str) (hl : (b :: r).length ≤ 65536) : Calls Tryz.prog 45 #[.string (str (b :: r))] w fun e w' =>
  e = .returned (.tuple #[.int .i64 (numQ b r).1, .int .i64 ((numQ b r).2.1 : Int), .int .i64 (if (numQ b r).2.2 = true then 32 else 0)]) ∧ Below w.heap.size w w' := by
 have hc : ∀ d : Str, d.length ≤ 65536 → Calls Tryz.prog 23 #[.string (str d), .func (.func 44) #[] #[]] w fun e w' => e = .returned (.int .i64 (spanN isDigit d)) ∧ w' = w := fun d hd =>
  run_any w d 44 isDigit (fun a w => callFunc_enter Tryz.func44 (by kernel_rfl) rfl a w) (by omega) (fun b w => digit_any b w)
 by_cases h95 : b = 95
 ·subst h95
  have hq : numQ 95 r = if spanN isDigit r = 0 then (0, 0, false) else if in64B (-(decV (r.take (spanN isDigit r)) : Int)) = true then (-(decV (r.take (spanN isDigit r)) : Int), spanN isDigit r + 1, false) else (0, 0, true) := by
   unfold numQ; rfl
  have hrl : r.length ≤ 65535 := by simpa using hl
  have hs := span_le isDigit r
  have hcr := hc r (by omega)
  have hp := parse_c true (r.take (spanN isDigit r)) w ht (span_take r)
  simp only [↓reduceIte] at hp
  rw [hq]
  generalize hn : spanN isDigit r = n at hcr hp hs ⊢
  generalize hv : (-(decV (r.take n) : Int)) = v at hp ⊢
  have hlen : (r.take n).length = n := by simp; omega
  have HC := Lib.hid hcr; have HP := Lib.hid hp
  clear hcr hp hn hv hq hc
  by_cases h0 : n = 0
  ·rw [if_pos h0]
   subst h0
   go_enter Tryz.func45, Tryz.ntmps45
   go_wp2_with (first
    | (go_at_call 23; refine HC.out.mono ?_; rintro e w' ⟨rfl, rfl⟩))
   refine bodyPost_ret (results_t3 rfl _ _ rfl rfl rfl) rfl ⟨rfl, Below.refl _ _⟩
  ·rw [if_neg h0]
   have h0' : ((n : Int) == 0) = false := by rw [beq_eq_false_iff_ne]; omega
   have hp := HP.out (by intro e; rw [e] at hlen; exact h0 hlen.symm) (by omega)
   clear HP
   cases hi : in64B v with
   | true =>
    rw [if_pos rfl]
    have HQ := Lib.hid (hp.mono (R' := fun e w' => e = .returned (.tuple #[.int .i64 v, .nilIface]) ∧ Below w.heap.size w w') fun e w' ⟨v2, r2, h1, h2, h3⟩ => by
     rw [if_pos hi] at h3
     obtain ⟨rfl, rfl⟩ := h3
     exact ⟨h1, h2⟩)
    clear hp
    go_enter Tryz.func45, Tryz.ntmps45
    go_wp2_with (first
     | (go_at_call 23; refine HC.out.mono ?_; rintro e w' ⟨rfl, rfl⟩)
     | (go_at_call 72; refine HQ.out.mono ?_; rintro e w' ⟨rfl, hb⟩))
    refine bodyPost_ret (results_t3 rfl _ _ rfl rfl rfl) rfl ⟨rfl, hb⟩
   | false =>
    rw [if_neg (by decide)]
    have HQ := Lib.hid (hp.mono (R' := fun e w' => ∃ v2 N, e = .returned (.tuple #[.int .i64 v2, .iface 228 (.pointer (some N))]) ∧ Below w.heap.size w w') fun e w' ⟨v2, r2, h1, h2, h3⟩ => by
     rw [if_neg (by rw [hi]; decide)] at h3
     obtain ⟨N, rfl⟩ := h3
     exact ⟨v2, N, h1, h2⟩)
    clear hp
    go_enter Tryz.func45, Tryz.ntmps45
    go_wp2_with (first
     | (go_at_call 23; refine HC.out.mono ?_; rintro e w' ⟨rfl, rfl⟩)
     | (go_at_call 72; refine HQ.out.mono ?_; rintro e w' ⟨v2, N, rfl, hb⟩))
    refine bodyPost_ret (results_t3 rfl _ _ rfl rfl rfl) rfl ⟨rfl, hb⟩
 ·have hbe : ((b.toNat : Int) == 95) = false := by
   rw [beq_eq_false_iff_ne]; intro e; exact h95 (UInt8.toNat_inj.1 (by show b.toNat = 95; omega))
  have hq : numQ b r = if spanN isDigit (b :: r) = 0 then (0, 0, false) else if in64B (decV ((b :: r).take (spanN isDigit (b :: r))) : Int) = true then ((decV ((b :: r).take (spanN isDigit (b :: r))) : Int), spanN isDigit (b :: r), false) else (0, 0, true) := by
   unfold numQ; simp only [if_neg h95, Nat.add_zero]
  have hrl : (b :: r).length ≤ 65536 := hl
  have hs := span_le isDigit (b :: r)
  have hcr := hc (b :: r) (by omega)
  have hp := parse_c false ((b :: r).take (spanN isDigit (b :: r))) w ht (span_take (b :: r))
  simp only [Bool.false_eq_true, ↓reduceIte] at hp
  rw [hq]
  generalize hn : spanN isDigit (b :: r) = n at hcr hp hs ⊢
  generalize hv : (decV ((b :: r).take n) : Int) = v at hp ⊢
  have hlen : ((b :: r).take n).length = n := by rw [List.length_take]; omega
  have HC := Lib.hid hcr; have HP := Lib.hid hp
  clear hcr hp hn hv hq hc
  by_cases h0 : n = 0
  ·rw [if_pos h0]
   subst h0
   go_enter Tryz.func45, Tryz.ntmps45
   go_wp2_with (first
    | (go_at_call 23; refine HC.out.mono ?_; rintro e w' ⟨rfl, rfl⟩))
   refine bodyPost_ret (results_t3 rfl _ _ rfl rfl rfl) rfl ⟨rfl, Below.refl _ _⟩
  ·rw [if_neg h0]
   have h0' : ((n : Int) == 0) = false := by rw [beq_eq_false_iff_ne]; omega
   have hp := HP.out (by intro e; rw [e] at hlen; exact h0 hlen.symm) (by omega)
   clear HP
   cases hi : in64B v with
   | true =>
    rw [if_pos rfl]
    have HQ := Lib.hid (hp.mono (R' := fun e w' => e = .returned (.tuple #[.int .i64 v, .nilIface]) ∧ Below w.heap.size w w') fun e w' ⟨v2, r2, h1, h2, h3⟩ => by
     rw [if_pos hi] at h3
     obtain ⟨rfl, rfl⟩ := h3
     exact ⟨h1, h2⟩)
    clear hp
    go_enter Tryz.func45, Tryz.ntmps45
    go_wp2_with (first
     | (go_at_call 23; refine HC.out.mono ?_; rintro e w' ⟨rfl, rfl⟩)
     | (go_at_call 72; refine HQ.out.mono ?_; rintro e w' ⟨rfl, hb⟩))
    refine bodyPost_ret (results_t3 rfl _ _ rfl rfl rfl) rfl ⟨rfl, hb⟩
   | false =>
    rw [if_neg (by decide)]
    have HQ := Lib.hid (hp.mono (R' := fun e w' => ∃ v2 N, e = .returned (.tuple #[.int .i64 v2, .iface 228 (.pointer (some N))]) ∧ Below w.heap.size w w') fun e w' ⟨v2, r2, h1, h2, h3⟩ => by
     rw [if_neg (by rw [hi]; decide)] at h3
     obtain ⟨N, rfl⟩ := h3
     exact ⟨v2, N, h1, h2⟩)
    clear hp
    go_enter Tryz.func45, Tryz.ntmps45
    go_wp2_with (first
     | (go_at_call 23; refine HC.out.mono ?_; rintro e w' ⟨rfl, rfl⟩)
     | (go_at_call 72; refine HQ.out.mono ?_; rintro e w' ⟨v2, N, rfl, hb⟩))
    refine bodyPost_ret (results_t3 rfl _ _ rfl rfl rfl) rfl ⟨rfl, hb⟩
end Go.Proofs.YtokghjnkfabgiaaGreatDoor
