import Derived.Test.YtiogopichcnihaaJ1
import Derived.Test.YtiogopichcnihaaWhole
namespace Go.Proofs.Ytiogopichcnihaa
set_option maxRecDepth 100000
open Go.RowKit
set_option linter.unusedVariables false
set_option linter.unusedSimpArgs false

/-! check, whole; words of instructions. -/
theorem checkB_take {xs : List Int} {k : Nat} (h : k < xs.length) : checkB (xs.take (k + 1)) = (checkB (xs.take k) * 31 + xs[k].toNat) % 4294967296 := by
  unfold checkB; rw [List.take_succ_eq_append_getElem h, List.foldl_append]; rfl
theorem wholeB_take {xs : List Int} {k : Nat} (h : k < xs.length) : wholeB (xs.take (k + 1)) = (wholeB (xs.take k) * 256 + xs[k].toNat) % 18446744073709551616 := by
  unfold wholeB; rw [List.take_succ_eq_append_getElem h, List.foldl_append]; rfl
theorem wholeB_lt (l : List Int) : wholeB l < 18446744073709551616 := by
  unfold wholeB
  have : ∀ (l : List Int) (c : Nat), c < 18446744073709551616 → l.foldl (fun c x => (c * 256 + x.toNat) % 18446744073709551616) c < 18446744073709551616 := by
    intro l
    induction l with
    | nil => intro c h; exact h
    | cons x l ih => intro c h; exact ih _ (Nat.mod_lt _ (by omega))
  exact this l 0 (by omega)
theorem or_u64 (k a b : Nat) (hb : b < 2 ^ k) (h : 2 ^ k * a + b < 18446744073709551616) : bits BinOp.or IntKind.u64 ((2 ^ k * a : Nat) : Int) (b : Int) = ((2 ^ k * a + b : Nat) : Int) := by
  have e : bits BinOp.or IntKind.u64 ((2 ^ k * a : Nat) : Int) (b : Int) = IntKind.u64.wrap (((BitVec.ofInt 64 ((2 ^ k * a : Nat) : Int) ||| BitVec.ofInt 64 (b : Int)).toNat : Nat) : Int) := rfl
  rw [e, BitVec.toNat_or, BitVec.toNat_ofInt, BitVec.toNat_ofInt]
  have h64 : ((2 ^ 64 : Nat) : Int) = 18446744073709551616 := by decide
  have h1 : (((2 ^ k * a : Nat) : Int) % ((2 ^ 64 : Nat) : Int)).toNat = 2 ^ k * a := by rw [h64]; omega
  have h2 : ((b : Int) % ((2 ^ 64 : Nat) : Int)).toNat = b := by rw [h64]; omega
  rw [h1, h2, ← Nat.two_pow_add_eq_or_of_lt hb]
  generalize 2 ^ k * a + b = n at h ⊢
  have : IntKind.u64.wrap (n : Int) = (n : Int) % 18446744073709551616 := by simp [IntKind.wrap, IntKind.signed, IntKind.bits]
  rw [this]
  omega
theorem or_i64 (k a b : Nat) (hb : b < 2 ^ k) (h : 2 ^ k * a + b < 9223372036854775808) : bits BinOp.or IntKind.i64 (b : Int) ((2 ^ k * a : Nat) : Int) = ((2 ^ k * a + b : Nat) : Int) := by
  have e : bits BinOp.or IntKind.i64 (b : Int) ((2 ^ k * a : Nat) : Int) = IntKind.i64.wrap (((BitVec.ofInt 64 (b : Int) ||| BitVec.ofInt 64 ((2 ^ k * a : Nat) : Int)).toNat : Nat) : Int) := rfl
  rw [e, BitVec.toNat_or, BitVec.toNat_ofInt, BitVec.toNat_ofInt, Nat.or_comm]
  have h64 : ((2 ^ 64 : Nat) : Int) = 18446744073709551616 := by decide
  have h1 : (((2 ^ k * a : Nat) : Int) % ((2 ^ 64 : Nat) : Int)).toNat = 2 ^ k * a := by rw [h64]; omega
  have h2 : ((b : Int) % ((2 ^ 64 : Nat) : Int)).toNat = b := by rw [h64]; omega
  rw [h1, h2, ← Nat.two_pow_add_eq_or_of_lt hb]
  generalize 2 ^ k * a + b = n at h ⊢
  have : IntKind.i64.wrap (n : Int) = wrap64 (n : Int) := by unfold wrap64; exact IntKind.wrap_i64 _
  rw [this]
  unfold wrap64
  omega

theorem whole_step (cc : Nat) (x : Int) (h0 : 0 ≤ x) (h1 : x ≤ 255) : bits BinOp.or IntKind.u64 (IntKind.u64.wrap ((cc : Int) * 256)) x = (((cc * 256 + x.toNat) % 18446744073709551616 : Nat) : Int) := by
  have e1 : IntKind.u64.wrap ((cc : Int) * 256) = ((2 ^ 8 * (cc % 72057594037927936) : Nat) : Int) := by
    have : IntKind.u64.wrap ((cc : Int) * 256) = ((cc : Int) * 256) % 18446744073709551616 := by simp [IntKind.wrap, IntKind.signed, IntKind.bits]
    rw [this]
    omega
  have e2 : x = ((x.toNat : Nat) : Int) := by omega
  rw [e1]
  conv => lhs; rw [e2]
  rw [or_u64 8 _ _ (by omega) (by omega)]
  congr 1
  omega

set_option maxHeartbeats 4000000 in
theorem check_any (w : World) (a : Option Addr) (c : Nat) (xs : List Int) (h : IntsAt .u8 w a xs) (hb : Byts xs) (hm : xs.length ≤ 9223372036854775807) :
    Calls Try.prog 21 #[.slice a xs.length c] w fun e w' => e = .returned (.int .u32 (checkB xs)) ∧ w' = w := by
  have HI := Lib.hid h; have HBY := Lib.hid hb
  clear h hb
  go_enter Try.func21, Try.ntmps21
  go_wp2_with fail
  go_loop [3, 8] (fun v i => ∃ k : Nat, k ≤ xs.length ∧ i = .int .i64 k ∧ v = .int .u32 (checkB (xs.take k))) (fun _ i => xs.length - (intOf i).toNat)
  case atStart => exact ⟨0, Nat.zero_le _, rfl, rfl⟩
  case round =>
    obtain ⟨k, hk, rfl, rfl⟩ := hrel
    by_cases hlt : k < xs.length
    · obtain ⟨b, off, rfl, x0⟩ := HI.out k hlt
      have hst := checkB_take hlt
      have hx := HBY.out xs[k] (List.getElem_mem hlt)
      have hcl := checkB_lt (xs.take k)
      generalize xs[k] = x at x0 hst hx
      obtain ⟨hx0, hx1⟩ := hx
      have HST := Lib.hid hst
      generalize checkB (xs.take k) = cc at HST hcl ⊢
      have hk0 : (0 : Int) ≤ (k : Int) := by omega
      have hk1 : (k : Int) < (xs.length : Int) := by omega
      clear hst
      go_wp2_with fail
      go_round
      case rel => exact ⟨k + 1, by omega, by go_num, by rw [HST.out]; congr 1; omega⟩
      case measure => simp [intOf] <;> omega
    · obtain rfl : k = xs.length := by omega
      rw [List.take_length]
      go_wp2_with fail
      go_ret
      exact ⟨rfl, rfl⟩

set_option maxHeartbeats 4000000 in
theorem whole_any (w : World) (a : Option Addr) (c : Nat) (xs : List Int) (h : IntsAt .u8 w a xs) (hb : Byts xs) (hm : xs.length ≤ 9223372036854775807) :
    Calls Try.prog 39 #[.slice a xs.length c] w fun e w' => e = .returned (.int .u64 (wholeB xs)) ∧ w' = w := by
  have HI := Lib.hid h; have HBY := Lib.hid hb
  clear h hb
  go_enter Try.func39, Try.ntmps39
  go_wp2_with fail
  go_loop [3, 8] (fun v i => ∃ k : Nat, k ≤ xs.length ∧ i = .int .i64 k ∧ v = .int .u64 (wholeB (xs.take k))) (fun _ i => xs.length - (intOf i).toNat)
  case atStart => exact ⟨0, Nat.zero_le _, rfl, rfl⟩
  case round =>
    obtain ⟨k, hk, rfl, rfl⟩ := hrel
    by_cases hlt : k < xs.length
    · obtain ⟨b, off, rfl, x0⟩ := HI.out k hlt
      have hst := wholeB_take hlt
      have hx := HBY.out xs[k] (List.getElem_mem hlt)
      have hcl := wholeB_lt (xs.take k)
      generalize xs[k] = x at x0 hst hx
      obtain ⟨hx0, hx1⟩ := hx
      have HST := Lib.hid hst
      generalize wholeB (xs.take k) = cc at HST hcl ⊢
      have hk0 : (0 : Int) ≤ (k : Int) := by omega
      have hk1 : (k : Int) < (xs.length : Int) := by omega
      clear hst
      go_wp2_with fail
      go_round
      case rel => exact ⟨k + 1, by omega, by go_num, by rw [HST.out, whole_step cc x hx0 hx1]⟩
      case measure => simp [intOf] <;> omega
    · obtain rfl : k = xs.length := by omega
      rw [List.take_length]
      go_wp2_with fail
      go_ret
      exact ⟨rfl, rfl⟩
set_option maxHeartbeats 4000000 in
theorem rcheck_any (w : World) (a : Option Addr) (c : Nat) (xs : List Int) (h : IntsAt .u8 w a xs) (hb : Byts xs) (hm : xs.length ≤ 9223372036854775807) :
    Calls Try.prog 26 #[.slice a xs.length c] w fun e w' => e = .returned (.int .u32 (checkB xs)) ∧ w' = w := by
  have HI := Lib.hid h; have HBY := Lib.hid hb
  clear h hb
  go_enter Try.func26, Try.ntmps26
  go_wp2_with fail
  go_loop [3, 4] (fun v i => ∃ k : Nat, k ≤ xs.length ∧ i = .int .i64 k ∧ v = .int .u32 (checkB (xs.take k))) (fun _ i => xs.length - (intOf i).toNat)
  case atStart => exact ⟨0, Nat.zero_le _, rfl, rfl⟩
  case round =>
    obtain ⟨k, hk, rfl, rfl⟩ := hrel
    by_cases hlt : k < xs.length
    · obtain ⟨b, off, rfl, x0⟩ := HI.out k hlt
      have hst := checkB_take hlt
      have hx := HBY.out xs[k] (List.getElem_mem hlt)
      have hcl := checkB_lt (xs.take k)
      generalize xs[k] = x at x0 hst hx
      obtain ⟨hx0, hx1⟩ := hx
      have HST := Lib.hid hst
      generalize checkB (xs.take k) = cc at HST hcl ⊢
      have hk0 : (0 : Int) ≤ (k : Int) := by omega
      have hk1 : (k : Int) < (xs.length : Int) := by omega
      clear hst
      go_wp2_with fail
      go_round
      case rel => exact ⟨k + 1, by omega, by go_num, by rw [HST.out]; congr 1; omega⟩
      case measure => simp [intOf] <;> omega
    · obtain rfl : k = xs.length := by omega
      rw [List.take_length]
      go_wp2_with fail
      go_ret
      exact ⟨rfl, rfl⟩


/-! Instructions' words. -/
theorem enc_or (i : Ins) (h : i.wf) : bits BinOp.or IntKind.u64 (bits BinOp.or IntKind.u64 (bits BinOp.or IntKind.u64 (bits BinOp.or IntKind.u64 (i.op * 72057594037927936) (i.a * 281474976710656)) (i.b * 1099511627776)) (i.c * 4294967296)) (i.imm % 4294967296) = (encN i : Int) := by
  obtain ⟨h0, h1, h2, h3, h4⟩ := h
  have hq : ((immQ i : Nat) : Int) = i.imm % 4294967296 := by unfold immQ; omega
  have hq2 := immQ_lt i
  unfold encN
  obtain ⟨op, hop⟩ : ∃ n : Nat, i.op = n := ⟨i.op.toNat, by omega⟩
  obtain ⟨a, ha⟩ : ∃ n : Nat, i.a = n := ⟨i.a.toNat, by omega⟩
  obtain ⟨b, hb⟩ : ∃ n : Nat, i.b = n := ⟨i.b.toNat, by omega⟩
  obtain ⟨c, hc⟩ : ∃ n : Nat, i.c = n := ⟨i.c.toNat, by omega⟩
  rw [← hq]
  generalize immQ i = q at hq2 ⊢
  rw [hop] at h0 ⊢
  rw [ha] at h1 ⊢
  rw [hb] at h2 ⊢
  rw [hc] at h3 ⊢
  rw [show ((op : Int) * 72057594037927936) = ((2 ^ 56 * op : Nat) : Int) from by omega, show ((a : Int) * 281474976710656) = ((a * 281474976710656 : Nat) : Int) from by omega, or_u64 56 op _ (by omega) (by omega)]
  rw [show ((2 ^ 56 * op + a * 281474976710656 : Nat) : Int) = ((2 ^ 48 * (op * 256 + a) : Nat) : Int) from by omega, show ((b : Int) * 1099511627776) = ((b * 1099511627776 : Nat) : Int) from by omega, or_u64 48 _ _ (by omega) (by omega)]
  rw [show ((2 ^ 48 * (op * 256 + a) + b * 1099511627776 : Nat) : Int) = ((2 ^ 40 * (op * 65536 + a * 256 + b) : Nat) : Int) from by omega, show ((c : Int) * 4294967296) = ((c * 4294967296 : Nat) : Int) from by omega, or_u64 40 _ _ (by omega) (by omega)]
  rw [show ((2 ^ 40 * (op * 65536 + a * 256 + b) + c * 4294967296 : Nat) : Int) = ((2 ^ 32 * (op * 16777216 + a * 65536 + b * 256 + c) : Nat) : Int) from by omega, or_u64 32 _ _ (by omega) (by omega)]
  omega
set_option maxHeartbeats 4000000 in
theorem enc_any (w : World) (i : Ins) (hw : i.wf) (hr : i.right = true) :
    Calls Try.prog 19 #[.agg #[.int .u8 i.op, .int .u8 i.a, .int .u8 i.b, .int .u8 i.c, .int .i32 i.imm]] w fun e w' => e = .returned (.tuple #[.int .u64 (encN i), .int .i64 0]) ∧ Below w.heap.size w w' := by
  have heo := enc_or i hw
  obtain ⟨op, a, b, c, imm⟩ := i
  obtain ⟨h0, h1, h2, h3, h4⟩ := hw
  dsimp only at h0 h1 h2 h3 h4 heo ⊢
  have hri := fun W => isaRight_any W op a b c imm h0.1 h0.2
  unfold Ins.right at hr
  dsimp only at hr
  rw [hr] at hri
  have HRI := Lib.hid hri; have HEO := Lib.hid heo
  clear hri hr heo
  obtain ⟨h00, h01⟩ := h0; obtain ⟨h10, h11⟩ := h1; obtain ⟨h20, h21⟩ := h2; obtain ⟨h30, h31⟩ := h3; obtain ⟨h40, h41⟩ := h4
  go_enter Try.func19, Try.ntmps19
  go_wp2_with fail
  refine (HRI.out _).mono ?_
  rintro e w1 ⟨rfl, hb1⟩
  have hc := hb1.block w.heap.size (by simp)
  rw [World.alloc_heap_new] at hc
  have c0 := cell_of_row w1 w.heap.size 0 _ _ _ hc; have c1 := cell_of_row w1 w.heap.size 1 _ _ _ hc; have c2 := cell_of_row w1 w.heap.size 2 _ _ _ hc; have c3 := cell_of_row w1 w.heap.size 3 _ _ _ hc; have c4 := cell_of_row w1 w.heap.size 4 _ _ _ hc
  have HB1 := Lib.hid (bNext hb1 ((Below.refl _ _).alloc (Nat.le_refl _) _))
  clear hb1 hc HRI
  go_wp2_with fail
  go_ret2
  exact ⟨by rw [← HEO.out]; rfl, HB1.out⟩
theorem renc_sum (i : Ins) (h : i.wf) : (((i.op * 256 + i.a) * 256 + i.b) * 256 + i.c) * 4294967296 + i.imm % 4294967296 = (encN i : Int) := by
  obtain ⟨h0, h1, h2, h3, h4⟩ := h
  have hq : ((immQ i : Nat) : Int) = i.imm % 4294967296 := by unfold immQ; omega
  unfold encN
  omega
set_option maxHeartbeats 4000000 in
theorem renc_any (w : World) (i : Ins) (hw : i.wf) (hr : i.right = true) :
    Calls Try.prog 24 #[.agg #[.int .u8 i.op, .int .u8 i.a, .int .u8 i.b, .int .u8 i.c, .int .i32 i.imm]] w fun e w' => e = .returned (.tuple #[.int .u64 (encN i), .int .i64 0]) ∧ Below w.heap.size w w' := by
  have heo := renc_sum i hw
  obtain ⟨op, a, b, c, imm⟩ := i
  obtain ⟨h0, h1, h2, h3, h4⟩ := hw
  dsimp only at h0 h1 h2 h3 h4 heo ⊢
  have hri := fun W => rRight_any W op a b c imm h0.1 h0.2
  unfold Ins.right at hr
  dsimp only at hr
  rw [hr] at hri
  have HRI := Lib.hid hri
  clear hri hr
  obtain ⟨h00, h01⟩ := h0; obtain ⟨h10, h11⟩ := h1; obtain ⟨h20, h21⟩ := h2; obtain ⟨h30, h31⟩ := h3; obtain ⟨h40, h41⟩ := h4
  by_cases hneg : imm < 0
  · rw [show imm % 4294967296 = imm + 4294967296 from by omega] at heo
    have HEO := Lib.hid heo
    clear heo
    go_enter Try.func24, Try.ntmps24
    go_wp2_with fail
    refine (HRI.out _).mono ?_
    rintro e w1 ⟨rfl, hb1⟩
    have hc := hb1.block w.heap.size (by simp)
    rw [World.alloc_heap_new] at hc
    have c0 := cell_of_row w1 w.heap.size 0 _ _ _ hc; have c1 := cell_of_row w1 w.heap.size 1 _ _ _ hc; have c2 := cell_of_row w1 w.heap.size 2 _ _ _ hc; have c3 := cell_of_row w1 w.heap.size 3 _ _ _ hc; have c4 := cell_of_row w1 w.heap.size 4 _ _ _ hc
    have HB1 := Lib.hid (bNext hb1 ((Below.refl _ _).alloc (Nat.le_refl _) _))
    clear hb1 hc HRI
    go_wp2_with fail
    go_ret2
    exact ⟨by rw [← HEO.out]; rfl, HB1.out⟩
  · have hneg' : 0 ≤ imm := by omega
    rw [show imm % 4294967296 = imm from by omega] at heo
    have HEO := Lib.hid heo
    clear heo
    go_enter Try.func24, Try.ntmps24
    go_wp2_with fail
    refine (HRI.out _).mono ?_
    rintro e w1 ⟨rfl, hb1⟩
    have hc := hb1.block w.heap.size (by simp)
    rw [World.alloc_heap_new] at hc
    have c0 := cell_of_row w1 w.heap.size 0 _ _ _ hc; have c1 := cell_of_row w1 w.heap.size 1 _ _ _ hc; have c2 := cell_of_row w1 w.heap.size 2 _ _ _ hc; have c3 := cell_of_row w1 w.heap.size 3 _ _ _ hc; have c4 := cell_of_row w1 w.heap.size 4 _ _ _ hc
    have HB1 := Lib.hid (bNext hb1 ((Below.refl _ _).alloc (Nat.le_refl _) _))
    clear hb1 hc HRI
    go_wp2_with fail
    go_ret2
    exact ⟨by rw [← HEO.out]; rfl, HB1.out⟩
/-- results in a variable and a slot -/
theorem results_ct {fn : Func} {p q : Tmp} (h : fn.results = #[.cell p 43, .tmp q]) (tmps : Array Value) (w : World) (g : Nat) (t : TypeId) (cs : Array Value) (fr : Nat × Nat) (x : Value)
    (hp : tmps.getD p undef = .pointer (some ⟨g, 0, none⟩)) (hq : tmps.getD q undef = x) (hg : w.heap[g]? = some (.cells cs t fr)) (hi : cs.size = 5) :
    (results fn tmps).run Try.prog w = .ok (.tuple #[.agg cs, x]) w := by
  have hp' : tmps[p]?.getD undef = .pointer (some ⟨g, 0, none⟩) := by simpa using hp
  have hq' : tmps[q]?.getD undef = x := by simpa using hq
  simp [results, h, hp', hq', asAddr, run_loadVar_row w g t 43 cs fr _ hg Try.underlying43 rfl (by rw [hi]; kernel_rfl)]
theorem dec_fields (n : Nat) (h : n < 18446744073709551616) : (n : Int) / 72057594037927936 = (decI n).op ∧ (n : Int) / 281474976710656 % 256 = (decI n).a ∧ (n : Int) / 1099511627776 % 256 = (decI n).b ∧ (n : Int) / 4294967296 % 256 = (decI n).c ∧ wrap32 ((n : Int) % 4294967296) = (decI n).imm := by
  unfold decI wrap32
  refine ⟨?_, ?_, ?_, ?_, ?_⟩ <;> dsimp only
  · omega
  · omega
  · omega
  · omega
  · split <;> omega
def DecE (i : Ins) : Ending := .returned (.tuple #[.agg (if i.right then #[.int .u8 i.op, .int .u8 i.a, .int .u8 i.b, .int .u8 i.c, .int .i32 i.imm] else #[.int .u8 0, .int .u8 0, .int .u8 0, .int .u8 0, .int .i32 0]), .int .i64 (if i.right then 0 else 150)])
set_option maxHeartbeats 4000000 in
theorem dec_any (w : World) (n : Nat) (hn : n < 18446744073709551616) :
    Calls Try.prog 57 #[.int .u64 n] w fun e w' => e = DecE (decI n) ∧ Below w.heap.size w w' := by
  have hwf := decI_wf n
  obtain ⟨e0, e1, e2, e3, e4⟩ := dec_fields n hn
  have hri := fun W => isaRight_any W (decI n).op (decI n).a (decI n).b (decI n).c (decI n).imm hwf.op.1 hwf.op.2
  have hD : (decI n).right = insRight (decI n).op (decI n).a (decI n).b (decI n).c (decI n).imm := rfl
  rw [← hD] at hri
  generalize decI n = i at hri e0 e1 e2 e3 e4
  unfold DecE
  obtain ⟨r, hr⟩ : ∃ r, i.right = r := ⟨_, rfl⟩
  rw [hr] at hri ⊢
  clear hr
  have HRI := Lib.hid hri; have E0 := Lib.hid e0; have E1 := Lib.hid e1; have E2 := Lib.hid e2; have E3 := Lib.hid e3; have E4 := Lib.hid e4
  clear hri e0 e1 e2 e3 e4 hwf hD
  go_enter Try.func57, Try.ntmps57
  go_wp2_with fail
  rw [E0.out, E1.out, E2.out, E3.out, E4.out]
  clear E0 E1 E2 E3 E4
  obtain ⟨op, a, b, c, imm⟩ := i
  refine (HRI.out _).mono ?_
  rintro e w1 ⟨rfl, hb1⟩
  obtain ⟨hr0, hc⟩ := new2 hb1
  have HB1 := Lib.hid (bNext hb1 (((Below.refl _ _).alloc (Nat.le_refl _) _).alloc (by simp) _))
  have HC := Lib.hid hc; have HR0 := Lib.hid hr0
  clear hb1 HRI hc hr0
  cases r with
  | true =>
    obtain ⟨G, hG⟩ : ∃ G, w.heap.size = G := ⟨_, rfl⟩
    rw [hG] at HC HR0 ⊢
    go_wp2_with (first | ((with_reducible show wpList _ _ _ ({ dst := some _, op := Op.load 43 (.tmp 4), type := _, pos := _, after := _, guard := _ } :: _) _ _); (refine wpList_loadW (by rfl) 43 _ rfl (G + 1) rfl _ _ (0, 0) _ HC.out Try.underlying43 rfl (by kernel_rfl) ?_)) | ((with_reducible show wpList _ _ _ ({ dst := none, op := Op.store 43 (.tmp 2) (.tmp _), type := _, pos := _, after := _, guard := _ } :: _) _ _); (refine wpList_storeW rfl 43 _ _ rfl G rfl _ _ rfl _ HR0.out (by kernel_rfl) (by rfl) (by rfl) ?_); intro w2 hr2 hg2))
    refine bodyPost_ret (v := .tuple #[.agg #[.int .u8 op, .int .u8 a, .int .u8 b, .int .u8 c, .int .i32 imm], .int .i64 0]) (results_ct rfl _ _ G 43 _ (0, 0) _ rfl rfl hr2 rfl) rfl ?_
    exact ⟨rfl, hG ▸ HB1.out.grown hg2 HB1.out.size (fun k hk => by cases hk; omega)⟩
  | false =>
    go_wp2_with (first | ((with_reducible show wpList _ _ _ ({ dst := some _, op := Op.load 43 (.tmp 4), type := _, pos := _, after := _, guard := _ } :: _) _ _); (refine wpList_loadW (by rfl) 43 _ rfl (w.heap.size + 1) rfl _ _ (0, 0) _ HC.out Try.underlying43 rfl (by kernel_rfl) ?_)) | ((with_reducible show wpList _ _ _ ({ dst := none, op := Op.store 43 (.tmp 2) (.tmp _), type := _, pos := _, after := _, guard := _ } :: _) _ _); (refine wpList_storeW rfl 43 _ _ rfl w.heap.size rfl _ _ rfl _ HR0.out (by kernel_rfl) (by rfl) (by rfl) ?_); intro w2 hr2 hg2))
    refine bodyPost_ret (v := .tuple #[.agg #[.int .u8 0, .int .u8 0, .int .u8 0, .int .u8 0, .int .i32 0], .int .i64 150]) (results_ct rfl _ _ w.heap.size 43 _ (0, 0) _ rfl rfl hr2 rfl) rfl ?_
    exact ⟨rfl, HB1.out.grown hg2 HB1.out.size (fun k hk => by cases hk; omega)⟩
end Go.Proofs.Ytiogopichcnihaa
