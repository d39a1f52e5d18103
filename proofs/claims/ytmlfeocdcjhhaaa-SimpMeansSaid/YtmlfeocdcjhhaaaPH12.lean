import Derived.Test.YtmlfeocdcjhhaaaPH11
import Derived.Laws.StructEq
import Derived.Test.YtmlfeocdcjhhaaaPH1
namespace Go.Proofs.Ytmlfeocdcjhhaaa
set_option maxRecDepth 100000
open Go.RowKit
set_option linter.unusedVariables false
set_option linter.unusedSimpArgs false
attribute [local go_sem ↓] Go.wp_at_zero Go.wp_at_succ

theorem field_zero (W : World) : (Instr.field 47 (.agg #[.int .i64 0, .int .u8 0, .int .u8 0, .int .u8 0, .int .u8 0, .int .u8 0, .int .u8 0]) 1).run Try.prog W = .ok (.agg #[.int .u8 0, .int .u8 0, .int .u8 0, .int .u8 0, .int .u8 0, .int .u8 0]) W := by kernel_rfl
theorem size_u8 (W : World) : (sizeOf 5).run Try.prog W = .ok 1 W := by kernel_rfl
theorem part0 (a b c d e f : Value) (W : World) : (part 5 #[a, b, c, d, e, f] 0).run Try.prog W = .ok a W := by kernel_rfl
theorem part1 (a b c d e f : Value) (W : World) : (part 5 #[a, b, c, d, e, f] 1).run Try.prog W = .ok b W := by kernel_rfl
theorem part2 (a b c d e f : Value) (W : World) : (part 5 #[a, b, c, d, e, f] 2).run Try.prog W = .ok c W := by kernel_rfl
theorem part3 (a b c d e f : Value) (W : World) : (part 5 #[a, b, c, d, e, f] 3).run Try.prog W = .ok d W := by kernel_rfl
theorem part4 (a b c d e f : Value) (W : World) : (part 5 #[a, b, c, d, e, f] 4).run Try.prog W = .ok e W := by kernel_rfl
theorem part5 (a b c d e f : Value) (W : World) : (part 5 #[a, b, c, d, e, f] 5).run Try.prog W = .ok f W := by kernel_rfl
theorem eq_u8 (n : Nat) (a b : Int) (W : World) : (Op.equalIn (n + 1) 5 (.int .u8 a) (.int .u8 b)).run Try.prog W = .ok (a == b) W := run_equalIn_int W n 5 .u8 .u8 a b Try.underlying5
theorem eq_six (W : World) (a0 a1 a2 a3 a4 a5 : Int) : (Op.equalIn 10000 45 (.agg #[.int .u8 a0, .int .u8 a1, .int .u8 a2, .int .u8 a3, .int .u8 a4, .int .u8 a5]) (.agg #[.int .u8 0, .int .u8 0, .int .u8 0, .int .u8 0, .int .u8 0, .int .u8 0])).run Try.prog W
    = .ok (a0 == 0 && (a1 == 0 && (a2 == 0 && (a3 == 0 && (a4 == 0 && a5 == 0))))) W := by
  show (Op.equalIn (9999 + 1) 45 _ _).run Try.prog W = _
  rw [Op.equalIn]
  simp only [Sem.run_bind, run_underlying Try.underlying45, Result.andThen_ok, size_u8]
  simp only [Std.Legacy.Range.forIn_eq_forIn_range', Std.Legacy.Range.size, List.range', Nat.mul_one]
  have e := fun a b w => eq_u8 9998 a b w
  simp only [Nat.reduceAdd] at e
  simp only [Nat.zero_add, Nat.reduceAdd, List.forIn_cons, List.forIn_nil, Sem.run_bind]
  cases h0 : (a0 == 0)
  · simp [part0, e, h0, Result.andThen_ok]
  cases h1 : (a1 == 0)
  · simp [part0, part1, e, h0, h1, Result.andThen_ok]
  cases h2 : (a2 == 0)
  · simp [part0, part1, part2, e, h0, h1, h2, Result.andThen_ok]
  cases h3 : (a3 == 0)
  · simp [part0, part1, part2, part3, e, h0, h1, h2, h3, Result.andThen_ok]
  cases h4 : (a4 == 0)
  · simp [part0, part1, part2, part3, part4, e, h0, h1, h2, h3, h4, Result.andThen_ok]
  cases h5 : (a5 == 0) <;> simp [part0, part1, part2, part3, part4, part5, e, h0, h1, h2, h3, h4, h5, Result.andThen_ok]
attribute [local go_sem] field_zero eq_six
/-- an operation as an argument -/
def opV (o : Cop) (pa : Option Addr) (pc : Nat) : Value := .agg #[.int .i64 o.how, .int .i64 o.k, .int .i64 o.n, .slice pa o.p.length pc, .int .u8 o.fn]
/-- its box -/
structure OpBox (w W : World) (z : Nat) (o : Cop) (v : Value) : Prop where
  x : W.heap[z]? = some (.cells #[.int .i64 o.how, .int .i64 o.k, .int .i64 o.n, v, .int .u8 o.fn] 44 (0, 0))
  b : Below w.heap.size w W
theorem OpBox.next {w W W' : World} {z : Nat} {o : Cop} {v : Value} (h : OpBox w W z o v) (hb : Below W.heap.size W W') : OpBox w W' z o v := ⟨block_below h.x hb, bNext hb h.b⟩
theorem OpBox.new (w : World) (o : Cop) (v : Value) : OpBox w (w.alloc (.cells #[.int .i64 o.how, .int .i64 o.k, .int .i64 o.n, v, .int .u8 o.fn] 44)) w.heap.size o v := ⟨World.alloc_heap_new _ _, (Below.refl _ _).alloc (Nat.le_refl _) _⟩
theorem OpBox.c0 {w W : World} {z : Nat} {o : Cop} {v : Value} (h : OpBox w W z o v) : W.cell? ⟨z, 0, none⟩ = some (.int .i64 o.how) := cell_of_row W z 0 _ _ _ h.x
theorem OpBox.c1 {w W : World} {z : Nat} {o : Cop} {v : Value} (h : OpBox w W z o v) : W.cell? ⟨z, 1, none⟩ = some (.int .i64 o.k) := cell_of_row W z 1 _ _ _ h.x
theorem OpBox.c2 {w W : World} {z : Nat} {o : Cop} {v : Value} (h : OpBox w W z o v) : W.cell? ⟨z, 2, none⟩ = some (.int .i64 o.n) := cell_of_row W z 2 _ _ _ h.x
theorem OpBox.c3 {w W : World} {z : Nat} {o : Cop} {v : Value} (h : OpBox w W z o v) : W.cell? ⟨z, 3, none⟩ = some v := cell_of_row W z 3 _ _ _ h.x
theorem OpBox.c4 {w W : World} {z : Nat} {o : Cop} {v : Value} (h : OpBox w W z o v) : W.cell? ⟨z, 4, none⟩ = some (.int .u8 o.fn) := cell_of_row W z 4 _ _ _ h.x
theorem MonS.els {B : Bd} {w : World} {a : Option Addr} {n c : Nat} {p : List Mono} (h : MonS B w (.slice a n c) p) : monoRep.Els w a p := by
  obtain ⟨⟨a', c', e, _, _, _, hx⟩, _⟩ := h
  simp only [Value.slice.injEq] at e
  rw [e.1]; exact hx
theorem value_0 {o : Cop} (h : o.p = []) : valueC o = [numC 0] := by unfold valueC; rw [h]
theorem value_1 {o : Cop} {m : Mono} (h : o.p = [m]) : valueC o = if flatE m then [numC m.n] else [o] := by unfold valueC; rw [h]
theorem value_2 {o : Cop} (h : 1 < o.p.length) : valueC o = [o] := by
  unfold valueC
  split
  · rename_i e; rw [e] at h; simp at h
  · rename_i m e; rw [e] at h; simp at h
  · rfl
theorem value13_0 (w : World) (B0 B : Bd) (hB : B ≤ w.heap.size) (o : Cop) (pa : Option Addr) (pc : Nat) (hp : MonS B0 w (.slice pa o.p.length pc) o.p) (h0 : o.p = []) : Calls Try.prog 53 #[opV o pa pc] w (RetC B w (valueC o)) := by
  rw [value_0 h0]
  have hl : o.p.length = 0 := by rw [h0]; rfl
  have HN := Lib.hid (fun W hL => numC_any W B hL 0 (by unfold I64; omega))
  have HO := Lib.hid (OpBox.new w o (.slice pa 0 pc))
  unfold opV
  rw [hl]
  clear hp h0 hl
  go_enter Try.func53, Try.ntmps53
  go_upto_region 1 with fail
  refine gen_worldA (fun W => OpBox w W w.heap.size o (.slice pa 0 pc)) HO.out ?_
  rintro W hO
  have x3 := hO.c3
  have HQ := Lib.hid (HN.out W (Nat.le_trans (Bd.low hB) hO.b.size))
  have HO := Lib.hid hO
  clear hO HN
  go_wp2_with fail
  refine HQ.out.mono ?_
  rintro e w1 ⟨⟨v, rfl, hv⟩, hb⟩
  go_wp2_with fail
  go_ret
  exact ⟨⟨_, rfl, hv⟩, bNext hb HO.out.b⟩
set_option maxHeartbeats 1000000 in
theorem value13_1 (w : World) (B0 B : Bd) (hB : B ≤ w.heap.size) (o : Cop) (m : Mono) (pa : Option Addr) (pc : Nat) (hp : MonS B0 w (.slice pa o.p.length pc) o.p) (h0 : o.p = [m]) (hf : flatE m = true) : Calls Try.prog 53 #[opV o pa pc] w (RetC B w (valueC o)) := by
  rw [value_1 h0, if_pos hf]
  have hl : o.p.length = 1 := by rw [h0]; rfl
  obtain ⟨b, off, rfl, hwf, y0, y1, y2, y3, y4, y5, y6⟩ := els_mono hp.els (k := 0) (by rw [hl]; omega)
  simp only [h0, List.getElem_cons_zero, Nat.zero_mul, Nat.add_zero] at hwf y0 y1 y2 y3 y4 y5 y6
  have hfe : m.e0 = 0 ∧ m.e1 = 0 ∧ m.e2 = 0 ∧ m.e3 = 0 ∧ m.e4 = 0 ∧ m.e5 = 0 := by unfold flatE Mono.E at hf; simpa using hf
  obtain ⟨e0, e1, e2, e3, e4, e5⟩ := hfe
  rw [e0] at y1; rw [e1] at y2; rw [e2] at y3; rw [e3] at y4; rw [e4] at y5; rw [e5] at y6
  have HN := Lib.hid (fun W hL => numC_any W B hL m.n hwf.n)
  have HO := Lib.hid (OpBox.new w o (.slice (some ⟨b, off, none⟩) 1 pc))
  unfold opV
  rw [hl]
  clear hp h0 hl hf hwf e0 e1 e2 e3 e4 e5
  go_enter Try.func53, Try.ntmps53
  go_upto_region 1 with fail
  refine gen_worldA (fun W => OpBox w W w.heap.size o (.slice (some ⟨b, off, none⟩) 1 pc)) HO.out ?_
  rintro W hO
  have x3 := hO.c3
  have y0 := keepCell hO.b y0; have y1 := keepCell hO.b y1; have y2 := keepCell hO.b y2; have y3 := keepCell hO.b y3; have y4 := keepCell hO.b y4; have y5 := keepCell hO.b y5; have y6 := keepCell hO.b y6
  have HQ := Lib.hid (HN.out W (Nat.le_trans (Bd.low hB) hO.b.size))
  have HO := Lib.hid hO
  clear hO HN
  go_wp2_with fail
  refine HQ.out.mono ?_
  rintro e w1 ⟨⟨v, rfl, hv⟩, hb⟩
  go_wp2_with fail
  go_ret
  exact ⟨⟨_, rfl, hv⟩, bNext hb HO.out.b⟩
set_option maxHeartbeats 2000000 in
theorem value13_n (w : World) (B0 B : Bd) (hB : B ≤ w.heap.size) (o : Cop) (m : Mono) (pa : Option Addr) (pc : Nat) (hp : MonS B0 w (.slice pa o.p.length pc) o.p) (ho : OkO o) (h0 : o.p = [m]) (hf : flatE m = false) : Calls Try.prog 53 #[opV o pa pc] w (RetC B w (valueC o)) := by
  rw [value_1 h0, if_neg (by rw [hf]; decide)]
  have hl : o.p.length = 1 := by rw [h0]; rfl
  have HC := Lib.hid (fun W hL (h : MonS B0 W (.slice pa o.p.length pc) o.p) => cloneM_any W B0 B hL pa pc o.p h (by omega))
  have HP := Lib.hid hp; have OKO := Lib.hid ho; have HB0 := Lib.hid hB; have HLL := Lib.hid hl
  obtain ⟨b, off, rfl, hwf, y0, y1, y2, y3, y4, y5, y6⟩ := els_mono hp.els (k := 0) (by rw [hl]; omega)
  simp only [h0, List.getElem_cons_zero, Nat.zero_mul, Nat.add_zero] at hwf y0 y1 y2 y3 y4 y5 y6
  have hfe : (m.e0 == 0 && (m.e1 == 0 && (m.e2 == 0 && (m.e3 == 0 && (m.e4 == 0 && m.e5 == 0))))) = false := by rw [← hf]; unfold flatE Mono.E; simp [List.cons_beq_cons]
  have HO := Lib.hid (OpBox.new w o (.slice (some ⟨b, off, none⟩) o.p.length pc))
  unfold opV
  clear hp h0 hf hwf ho hB
  go_enter Try.func53, Try.ntmps53
  go_upto_region 1 with fail
  refine gen_worldA (fun W => OpBox w W w.heap.size o (.slice (some ⟨b, off, none⟩) o.p.length pc)) (by rw [hl]; rw [hl] at HO; exact HO.out) ?_
  rintro W hO
  rw [hl] at hO
  have x0 := hO.c0; have x1 := hO.c1; have x2 := hO.c2; have x3 := hO.c3; have x4 := hO.c4
  have y0 := keepCell hO.b y0; have y1 := keepCell hO.b y1; have y2 := keepCell hO.b y2; have y3 := keepCell hO.b y3; have y4 := keepCell hO.b y4; have y5 := keepCell hO.b y5; have y6 := keepCell hO.b y6
  have hq := HC.out W (Nat.le_trans (Bd.low HB0.out) hO.b.size) ((HP.out).below hO.b)
  rw [hl] at hq
  have HQ := Lib.hid hq
  have HO := Lib.hid hO
  clear hO HC hq hl
  go_wp2_with fail
  refine HQ.out.mono ?_
  rintro e w1 ⟨⟨v1, rfl, hv1⟩, hb1⟩
  have HO1 := Lib.hid (HO.out.next hb1)
  have hm1 := hv1
  obtain ⟨va, vc, rfl, -, -⟩ := Rep.Sl.form hv1.1
  have g3 := frozen_of_row w1 w.heap.size 3 _ _ HO1.out.x
  have hlt : w.heap.size < w1.heap.size := (Array.getElem?_eq_some_iff.1 HO1.out.x).1
  have hk : KeepTy 47 w1 (w1.setCell ⟨w.heap.size, 3, none⟩ (.slice va o.p.length vc)) := KeepTy.setCell (p := ⟨w.heap.size, 3, none⟩) (NotTy.of HO1.out.x (by decide)) _
  have hbB : Below B w1 (w1.setCell ⟨w.heap.size, 3, none⟩ (.slice va o.p.length vc)) := (Below.refl B.hi w1).setCell (by show B ≤ w.heap.size; exact HB0.out) _
  have hx2 := heap_setCell_same w1 w.heap.size 3 _ _ (.slice va o.p.length vc) HO1.out.x
  have HO2 := Lib.hid (show OpBox w (w1.setCell ⟨w.heap.size, 3, none⟩ (.slice va o.p.length vc)) w.heap.size o (.slice va o.p.length vc) from ⟨hx2, HO1.out.b.setCell (Nat.le_refl _) _⟩)
  have HM2 := Lib.hid (hm1.keep hbB hk)
  have y30 := HO1.out.c0; have y31 := HO1.out.c1; have y32 := HO1.out.c2; have y33 := HO1.out.c3; have y34 := HO1.out.c4
  clear HQ hm1 hv1 hb1 hk hbB hx2 x0 x1 x2 x3 x4
  go_upto_region 6 with fail
  refine gen_worldA (fun W => OpBox w W w.heap.size o (.slice va o.p.length vc) ∧ MonS B W (.slice va o.p.length vc) o.p) ⟨HO2.out, HM2.out⟩ ?_
  rintro W2 ⟨hO, hM⟩
  clear HO2 HM2 y30 y31 y32 y33 y34 g3 HO1 hlt
  have y30 := hO.c0; have y31 := hO.c1; have y32 := hO.c2; have y33 := hO.c3; have y34 := hO.c4
  obtain ⟨G, hG⟩ : ∃ G, W2.heap.size = G := ⟨_, rfl⟩
  have HL := Lib.hid (lit_one W2 B G (by rw [← hG]; exact Nat.le_trans (Bd.low HB0.out) hO.b.size) o _ hG hM OKO.out)
  have HO2 := Lib.hid hO
  clear hO hM
  go_wp2_with fail
  go_ret
  exact ⟨⟨_, rfl, HL.out⟩, HO2.out.b.alloc HO2.out.b.size _⟩
set_option maxHeartbeats 2000000 in
theorem value13_2 (w : World) (B0 B : Bd) (hB : B ≤ w.heap.size) (o : Cop) (pa : Option Addr) (pc : Nat) (hp : MonS B0 w (.slice pa o.p.length pc) o.p) (ho : OkO o) (h1 : 1 < o.p.length) (hl : o.p.length ≤ 1048576) : Calls Try.prog 53 #[opV o pa pc] w (RetC B w (valueC o)) := by
  rw [value_2 h1]
  have HC := Lib.hid (fun W hL (h : MonS B0 W (.slice pa o.p.length pc) o.p) => cloneM_any W B0 B hL pa pc o.p h hl)
  have HP := Lib.hid hp; have OKO := Lib.hid ho; have HB0 := Lib.hid hB
  have HO := Lib.hid (OpBox.new w o (.slice pa o.p.length pc))
  have l0 : ((o.p.length : Int) == 0) = false := by rw [beq_eq_false_iff_ne]; omega
  have l1 : ((o.p.length : Int) == 1) = false := by rw [beq_eq_false_iff_ne]; omega
  unfold opV
  clear hp ho hB h1
  go_enter Try.func53, Try.ntmps53
  go_upto_region 1 with fail
  refine gen_worldA (fun W => OpBox w W w.heap.size o (.slice pa o.p.length pc)) HO.out ?_
  rintro W hO
  have x0 := hO.c0; have x1 := hO.c1; have x2 := hO.c2; have x3 := hO.c3; have x4 := hO.c4
  have HQ := Lib.hid (HC.out W (Nat.le_trans (Bd.low HB0.out) hO.b.size) ((HP.out).below hO.b))
  have HO := Lib.hid hO
  clear hO HC
  go_wp2_with fail
  refine HQ.out.mono ?_
  rintro e w1 ⟨⟨v1, rfl, hv1⟩, hb1⟩
  have HO1 := Lib.hid (HO.out.next hb1)
  have hm1 := hv1
  obtain ⟨va, vc, rfl, -, -⟩ := Rep.Sl.form hv1.1
  have g3 := frozen_of_row w1 w.heap.size 3 _ _ HO1.out.x
  have hlt : w.heap.size < w1.heap.size := (Array.getElem?_eq_some_iff.1 HO1.out.x).1
  have hk : KeepTy 47 w1 (w1.setCell ⟨w.heap.size, 3, none⟩ (.slice va o.p.length vc)) := KeepTy.setCell (p := ⟨w.heap.size, 3, none⟩) (NotTy.of HO1.out.x (by decide)) _
  have hbB : Below B w1 (w1.setCell ⟨w.heap.size, 3, none⟩ (.slice va o.p.length vc)) := (Below.refl B.hi w1).setCell (by show B ≤ w.heap.size; exact HB0.out) _
  have hx2 := heap_setCell_same w1 w.heap.size 3 _ _ (.slice va o.p.length vc) HO1.out.x
  have HO2 := Lib.hid (show OpBox w (w1.setCell ⟨w.heap.size, 3, none⟩ (.slice va o.p.length vc)) w.heap.size o (.slice va o.p.length vc) from ⟨hx2, HO1.out.b.setCell (Nat.le_refl _) _⟩)
  have HM2 := Lib.hid (hm1.keep hbB hk)
  have y30 := HO1.out.c0; have y31 := HO1.out.c1; have y32 := HO1.out.c2; have y33 := HO1.out.c3; have y34 := HO1.out.c4
  clear HQ hm1 hv1 hb1 hk hbB hx2 x0 x1 x2 x3 x4
  go_upto_region 6 with fail
  refine gen_worldA (fun W => OpBox w W w.heap.size o (.slice va o.p.length vc) ∧ MonS B W (.slice va o.p.length vc) o.p) ⟨HO2.out, HM2.out⟩ ?_
  rintro W2 ⟨hO, hM⟩
  clear HO2 HM2 y30 y31 y32 y33 y34 g3 HO1 hlt
  have y30 := hO.c0; have y31 := hO.c1; have y32 := hO.c2; have y33 := hO.c3; have y34 := hO.c4
  obtain ⟨G, hG⟩ : ∃ G, W2.heap.size = G := ⟨_, rfl⟩
  have HL := Lib.hid (lit_one W2 B G (by rw [← hG]; exact Nat.le_trans (Bd.low HB0.out) hO.b.size) o _ hG hM OKO.out)
  have HO2 := Lib.hid hO
  clear hO hM
  go_wp2_with fail
  go_ret
  exact ⟨⟨_, rfl, HL.out⟩, HO2.out.b.alloc HO2.out.b.size _⟩
theorem value13_any (w : World) (B0 B : Bd) (hB : B ≤ w.heap.size) (o : Cop) (pa : Option Addr) (pc : Nat) (hp : MonS B0 w (.slice pa o.p.length pc) o.p) (ho : OkO o) (hl : o.p.length ≤ 1048576) : Calls Try.prog 53 #[opV o pa pc] w (RetC B w (valueC o)) := by
  rcases Nat.lt_or_ge 1 o.p.length with h | h
  · exact value13_2 w B0 B hB o pa pc hp ho h hl
  · rcases Nat.eq_zero_or_pos o.p.length with h0 | h0
    · exact value13_0 w B0 B hB o pa pc hp (List.eq_nil_of_length_eq_zero h0)
    · obtain ⟨m, hm⟩ := List.length_eq_one_iff.1 (show o.p.length = 1 by omega)
      cases hf : flatE m with
      | true => exact value13_1 w B0 B hB o m pa pc hp hm hf
      | false => exact value13_n w B0 B hB o m pa pc hp ho hm hf
end Go.Proofs.Ytmlfeocdcjhhaaa

namespace Go.Proofs.Ytmlfeocdcjhhaaa
set_option maxRecDepth 100000
open Go.RowKit
set_option linter.unusedVariables false
set_option linter.unusedSimpArgs false
attribute [local go_sem ↓] Go.wp_at_zero Go.wp_at_succ

theorem CopS.els {B : Bd} {w : World} {a : Option Addr} {n c : Nat} {l : List Cop} (h : CopS B w (.slice a n c) l) : copRep.Els w a l := by
  obtain ⟨a', c', e, _, hx⟩ := h.form
  simp only [Value.slice.injEq] at e
  rw [e.1]; exact hx
theorem CopS.le {B : Bd} {w : World} {v : Value} {l : List Cop} (h : CopS B w v l) : l.length ≤ 9223372036854775807 := by
  obtain ⟨_, _, _, h, _⟩ := h.form; exact h
theorem CopS.len {B : Bd} {w : World} {a : Option Addr} {n c : Nat} {l : List Cop} (h : CopS B w (.slice a n c) l) : l.length = n := by
  obtain ⟨a', c', e, _, hx⟩ := h.form
  simp only [Value.slice.injEq] at e
  exact e.2.1.symm
theorem known_in {B : Bd} {w : World} {v : Value} {l : List Cop} (h : CopS B w v l) {n : Int} (hk : knownC l = some n) : In64 n := by
  unfold knownC at hk
  split at hk
  · rename_i o
    split at hk
    · injection hk with hk
      have := (h.ok o (by simp)).n
      rw [← hk]; exact this
    · cases hk
  · cases hk
theorem monadC_x {x : List Cop} {o : Cop} (h : o.fn = 1 ∨ o.fn = 6 ∨ o.fn = 7) : monadC x o = x := by unfold monadC; rw [if_pos h]
theorem monadC_none {x : List Cop} {o : Cop} (h : ¬ (o.fn = 1 ∨ o.fn = 6 ∨ o.fn = 7)) (h1 : oneC o.fn x = none) : monadC x o = x ++ [o] := by unfold monadC; rw [if_neg h, h1]
theorem monadC_some {x : List Cop} {o : Cop} {m : Int} (h : ¬ (o.fn = 1 ∨ o.fn = 6 ∨ o.fn = 7)) (h1 : oneC o.fn x = some m) : monadC x o = [numC m] := by unfold monadC; rw [if_neg h, h1]
theorem monad13_x (w : World) (B : Bd) (hB : B ≤ w.heap.size) (a : Option Addr) (c : Nat) (x : List Cop) (hx : CopS B w (.slice a x.length c) x) (hl : x.length + 1 ≤ 2513169434843) (o : Cop) (pa : Option Addr) (pc : Nat) (hp : MonS B w (.slice pa o.p.length pc) o.p) (ho : OkO o)
    (h : o.fn = 1 ∨ o.fn = 6 ∨ o.fn = 7) : Calls Try.prog 55 #[.slice a x.length c, opV o pa pc] w (RetC B w (monadC x o)) := by
  rw [monadC_x h]
  rcases h with h | h | h
  all_goals
    have HF := Lib.hid h
    clear h
    have HX := Lib.hid hx; have HP := Lib.hid hp; have OKO := Lib.hid ho; have HB0 := Lib.hid hB; have HLL := Lib.hid hl
    have HO := Lib.hid (OpBox.new w o (.slice pa o.p.length pc))
    have hm := hx.le
    unfold opV
    clear hx hp ho hB hl
    go_enter Try.func55, Try.ntmps55
    go_upto_region 1 with fail
    refine gen_worldA (fun W => OpBox w W w.heap.size o (.slice pa o.p.length pc)) HO.out ?_
    rintro W hO
    have x4 := hO.c4
    have HO := Lib.hid hO
    clear hO
    rw [HF.out] at x4
    go_wp2_with fail
    go_ret
    exact ⟨⟨_, rfl, HX.out.below HO.out.b⟩, HO.out.b⟩
theorem monad13_y (w : World) (B : Bd) (hB : B ≤ w.heap.size) (a : Option Addr) (c : Nat) (x : List Cop) (hx : CopS B w (.slice a x.length c) x) (hl : x.length + 1 ≤ 2513169434843) (o : Cop) (pa : Option Addr) (pc : Nat) (hp : MonS B w (.slice pa o.p.length pc) o.p) (ho : OkO o)
    (h : ¬ (o.fn = 1 ∨ o.fn = 6 ∨ o.fn = 7)) : Calls Try.prog 55 #[.slice a x.length c, opV o pa pc] w (RetC B w (monadC x o)) := by
  have n1 : (o.fn == 1) = false := by rw [beq_eq_false_iff_ne]; omega
  have n6 : (o.fn == 6) = false := by rw [beq_eq_false_iff_ne]; omega
  have n7 : (o.fn == 7) = false := by rw [beq_eq_false_iff_ne]; omega
  cases hk : knownC x with
  | none =>
    rw [monadC_none h (by unfold oneC; rw [hk])]
    have HKN := Lib.hid hk
    clear h hk
    have HX := Lib.hid hx; have HP := Lib.hid hp; have OKO := Lib.hid ho; have HB0 := Lib.hid hB; have HLL := Lib.hid hl
    have HO := Lib.hid (OpBox.new w o (.slice pa o.p.length pc))
    have hm := hx.le
    unfold opV
    clear hx hp ho hB hl
    go_enter Try.func55, Try.ntmps55
    go_upto_region 1 with fail
    refine gen_worldA (fun W => OpBox w W w.heap.size o (.slice pa o.p.length pc)) HO.out ?_
    rintro W hO
    have x4 := hO.c4
    have HO := Lib.hid hO
    clear hO
    have hq := known_any W a c x (HX.out.below HO.out.b).els hm
    rw [HKN.out] at hq
    have HQ := Lib.hid hq
    clear hq
    go_wp2_with fail
    refine HQ.out.mono ?_
    rintro e W1 ⟨rfl, hb⟩
    have HO := Lib.hid (HO.out.next hb)
    clear hb x4 HQ
    have y0 := HO.out.c0; have y1 := HO.out.c1; have y2 := HO.out.c2; have y3 := HO.out.c3; have y4 := HO.out.c4
    obtain ⟨G1, hG1⟩ : ∃ G, W1.heap.size = G := ⟨_, rfl⟩
    have HQ := Lib.hid (join2_any W1 B G1 (G1 + 1) (Nat.le_trans HB0.out HO.out.b.size) hG1 rfl _ x (HX.out.below HO.out.b) o _ (HP.out.below HO.out.b) OKO.out HLL.out)
    go_wp2_with fail
    refine HQ.out.mono ?_
    rintro e' w2 ⟨⟨v2, rfl, hv2⟩, hb2⟩
    go_wp2_with fail
    go_ret
    exact ⟨⟨_, rfl, hv2⟩, bNext hb2 HO.out.b⟩
  | some n =>
    have hin := known_in hx hk
    obtain ⟨m, e0, hme⟩ : ∃ m e0, monadF o.fn n = (m, e0) := ⟨_, _, rfl⟩
    have hmi := monad_in (f := o.fn) hin
    rw [hme] at hmi
    have HM := Lib.hid (fun W => monad_at W o.fn n m e0 hin hme)
    have HKN := Lib.hid hk
    by_cases he : e0 = 0
    · subst he
      rw [monadC_some (m := m) h (by unfold oneC; rw [hk]; dsimp only; rw [hme]; rfl)]
      have HN := Lib.hid (fun W hL => numC_any W B hL m hmi)
      clear h hk hin hme hmi
      have HX := Lib.hid hx; have HP := Lib.hid hp; have OKO := Lib.hid ho; have HB0 := Lib.hid hB; have HLL := Lib.hid hl
      have HO := Lib.hid (OpBox.new w o (.slice pa o.p.length pc))
      have hm := hx.le
      unfold opV
      clear hx hp ho hB hl
      go_enter Try.func55, Try.ntmps55
      go_upto_region 1 with fail
      refine gen_worldA (fun W => OpBox w W w.heap.size o (.slice pa o.p.length pc)) HO.out ?_
      rintro W hO
      have x4 := hO.c4
      have HO := Lib.hid hO
      clear hO
      have hq := known_any W a c x (HX.out.below HO.out.b).els hm
      rw [HKN.out] at hq
      have HQ := Lib.hid hq
      clear hq
      go_wp2_with fail
      refine HQ.out.mono ?_
      rintro e W1 ⟨rfl, hb⟩
      have HO := Lib.hid (HO.out.next hb)
      have x4 := HO.out.c4
      have HQ2 := Lib.hid (HM.out W1)
      clear hb HQ HM
      go_wp2_with fail
      refine HQ2.out.mono ?_
      rintro e W2 ⟨rfl, nd, rfl⟩
      have HO := Lib.hid (HO.out.next (Below.drewN W1 nd))
      have HQ := Lib.hid (HN.out (W1.drewN nd) (Nat.le_trans (Bd.low HB0.out) HO.out.b.size))
      clear HQ2 HN x4
      go_wp2_with fail
      refine HQ.out.mono ?_
      rintro e w2 ⟨⟨v2, rfl, hv2⟩, hb2⟩
      go_wp2_with fail
      go_ret
      exact ⟨⟨_, rfl, hv2⟩, bNext hb2 HO.out.b⟩
    · rw [monadC_none h (by unfold oneC; rw [hk]; dsimp only; rw [hme]; exact if_neg he)]
      have he' : (e0 == 0) = false := by rw [beq_eq_false_iff_ne]; exact he
      clear h hk hin hme hmi he
      have HX := Lib.hid hx; have HP := Lib.hid hp; have OKO := Lib.hid ho; have HB0 := Lib.hid hB; have HLL := Lib.hid hl
      have HO := Lib.hid (OpBox.new w o (.slice pa o.p.length pc))
      have hm := hx.le
      unfold opV
      clear hx hp ho hB hl
      go_enter Try.func55, Try.ntmps55
      go_upto_region 1 with fail
      refine gen_worldA (fun W => OpBox w W w.heap.size o (.slice pa o.p.length pc)) HO.out ?_
      rintro W hO
      have x4 := hO.c4
      have HO := Lib.hid hO
      clear hO
      have hq := known_any W a c x (HX.out.below HO.out.b).els hm
      rw [HKN.out] at hq
      have HQ := Lib.hid hq
      clear hq
      go_wp2_with fail
      refine HQ.out.mono ?_
      rintro e W1 ⟨rfl, hb⟩
      have HO := Lib.hid (HO.out.next hb)
      have x4 := HO.out.c4
      have HQ2 := Lib.hid (HM.out W1)
      clear hb HQ HM
      go_wp2_with fail
      refine HQ2.out.mono ?_
      rintro e W2 ⟨rfl, nd, rfl⟩
      have HO := Lib.hid (HO.out.next (Below.drewN W1 nd))
      clear HQ2 x4
      obtain ⟨W3, hW3⟩ : ∃ W, W1.drewN nd = W := ⟨_, rfl⟩
      rw [hW3] at HO ⊢
      clear hW3
      have y0 := HO.out.c0; have y1 := HO.out.c1; have y2 := HO.out.c2; have y3 := HO.out.c3; have y4 := HO.out.c4
      obtain ⟨G1, hG1⟩ : ∃ G, W3.heap.size = G := ⟨_, rfl⟩
      have HQ := Lib.hid (join2_any W3 B G1 (G1 + 1) (Nat.le_trans HB0.out HO.out.b.size) hG1 rfl _ x (HX.out.below HO.out.b) o _ (HP.out.below HO.out.b) OKO.out HLL.out)
      go_wp2_with fail
      refine HQ.out.mono ?_
      rintro e' w2 ⟨⟨v2, rfl, hv2⟩, hb2⟩
      go_wp2_with fail
      go_ret
      exact ⟨⟨_, rfl, hv2⟩, bNext hb2 HO.out.b⟩
theorem monad13_any (w : World) (B : Bd) (hB : B ≤ w.heap.size) (a : Option Addr) (c : Nat) (x : List Cop) (hx : CopS B w (.slice a x.length c) x) (hl : x.length + 1 ≤ 2513169434843) (o : Cop) (pa : Option Addr) (pc : Nat) (hp : MonS B w (.slice pa o.p.length pc) o.p) (ho : OkO o) :
    Calls Try.prog 55 #[.slice a x.length c, opV o pa pc] w (RetC B w (monadC x o)) := by
  by_cases h : o.fn = 1 ∨ o.fn = 6 ∨ o.fn = 7
  · exact monad13_x w B hB a c x hx hl o pa pc hp ho h
  · exact monad13_y w B hB a c x hx hl o pa pc hp ho h
end Go.Proofs.Ytmlfeocdcjhhaaa

namespace Go.Proofs.Ytmlfeocdcjhhaaa
set_option maxRecDepth 100000
open Go.RowKit
set_option linter.unusedVariables false
set_option linter.unusedSimpArgs false
attribute [local go_sem ↓] Go.wp_at_zero Go.wp_at_succ

theorem Mono.ext' {x y : Mono} (h : x.n = y.n) (h0 : x.e0 = y.e0) (h1 : x.e1 = y.e1) (h2 : x.e2 = y.e2) (h3 : x.e3 = y.e3) (h4 : x.e4 = y.e4) (h5 : x.e5 = y.e5) : x = y := by cases x; cases y; simp_all
instance : DecidableEq Mono := fun x y => decidable_of_iff (x.n = y.n ∧ x.e0 = y.e0 ∧ x.e1 = y.e1 ∧ x.e2 = y.e2 ∧ x.e3 = y.e3 ∧ x.e4 = y.e4 ∧ x.e5 = y.e5) ⟨fun ⟨a, b, c, d, e, f, g⟩ => Mono.ext' a b c d e f g, fun h => by subst h; exact ⟨rfl, rfl, rfl, rfl, rfl, rfl, rfl⟩⟩
theorem Cop.ext' {x y : Cop} (h : x.how = y.how) (h0 : x.k = y.k) (h1 : x.n = y.n) (h2 : x.p = y.p) (h3 : x.fn = y.fn) : x = y := by cases x; cases y; simp_all
instance : DecidableEq Cop := fun x y => decidable_of_iff (x.how = y.how ∧ x.k = y.k ∧ x.n = y.n ∧ x.p = y.p ∧ x.fn = y.fn) ⟨fun ⟨a, b, c, d, e⟩ => Cop.ext' a b c d e, fun h => by subst h; exact ⟨rfl, rfl, rfl, rfl, rfl⟩⟩
def sameL {α : Type} [DecidableEq α] (xs ys : List α) : Bool := decide (xs = ys)
theorem take_eq_allL {α : Type} {xs ys : List α} {k : Nat} (hl : xs.length = ys.length) (hk : k < xs.length) (h : xs.take k = ys.take k) (he : xs[k] = ys[k]'(hl ▸ hk)) : xs.take (k + 1) = ys.take (k + 1) := by
  rw [List.take_succ_eq_append_getElem hk, List.take_succ_eq_append_getElem (hl ▸ hk), h, he]
theorem sameL_ne {α : Type} [DecidableEq α] {xs ys : List α} {k : Nat} (hk : k < xs.length) (hk2 : k < ys.length) (he : xs[k] ≠ ys[k]) : sameL xs ys = false := by
  unfold sameL
  exact decide_eq_false (fun e => by subst e; exact he rfl)
theorem sameL_len {α : Type} [DecidableEq α] {xs ys : List α} (h : xs.length ≠ ys.length) : sameL xs ys = false := decide_eq_false (fun e => h (by rw [e]))
theorem sameL_all {α : Type} [DecidableEq α] {xs ys : List α} (hl : xs.length = ys.length) (h : xs.take xs.length = ys.take xs.length) : sameL xs ys = true := by
  rw [List.take_of_length_le (Nat.le_refl _), List.take_of_length_le (by omega)] at h
  exact decide_eq_true h
theorem eq_arr6 (W : World) (a0 a1 a2 a3 a4 a5 b0 b1 b2 b3 b4 b5 : Int) (N : Nat) : (Op.equalIn (N + 2) 45 (.agg #[.int .u8 a0, .int .u8 a1, .int .u8 a2, .int .u8 a3, .int .u8 a4, .int .u8 a5]) (.agg #[.int .u8 b0, .int .u8 b1, .int .u8 b2, .int .u8 b3, .int .u8 b4, .int .u8 b5])).run Try.prog W
    = .ok (a0 == b0 && (a1 == b1 && (a2 == b2 && (a3 == b3 && (a4 == b4 && a5 == b5))))) W := by
  rw [Op.equalIn]
  simp only [Sem.run_bind, run_underlying Try.underlying45, Result.andThen_ok, size_u8]
  simp only [Std.Legacy.Range.forIn_eq_forIn_range', Std.Legacy.Range.size, List.range', Nat.mul_one]
  have e := fun a b w => eq_u8 N a b w
  simp only [Nat.zero_add, Nat.reduceAdd, List.forIn_cons, List.forIn_nil, Sem.run_bind]
  cases h0 : (a0 == b0)
  · simp [part0, e, h0, Result.andThen_ok]
  cases h1 : (a1 == b1)
  · simp [part0, part1, e, h0, h1, Result.andThen_ok]
  cases h2 : (a2 == b2)
  · simp [part0, part1, part2, e, h0, h1, h2, Result.andThen_ok]
  cases h3 : (a3 == b3)
  · simp [part0, part1, part2, part3, e, h0, h1, h2, h3, Result.andThen_ok]
  cases h4 : (a4 == b4)
  · simp [part0, part1, part2, part3, part4, e, h0, h1, h2, h3, h4, Result.andThen_ok]
  cases h5 : (a5 == b5)
  · simp [part0, part1, part2, part3, part4, part5, e, h0, h1, h2, h3, h4, h5, Result.andThen_ok]
  · simp [part0, part1, part2, part3, part4, part5, e, h0, h1, h2, h3, h4, h5, Result.andThen_ok]
theorem neqMono (W : World) (x y : Mono) : (binOp .neq 47 x.V y.V).run Try.prog W = .ok (.bool (!decide (x = y))) W := by
  obtain ⟨o, a, b, c, i, j, k⟩ := x
  obtain ⟨o', a', b', c', i', j', k'⟩ := y
  unfold Mono.V
  simp only [Mono.mk.injEq]
  simp [go_sem, eq_arr6]
  by_cases h : o = o'
  rotate_left
  · simp [h]
  by_cases h0 : a = a'
  rotate_left
  · simp [h, h0]
  by_cases h1 : b = b'
  rotate_left
  · simp [h, h0, h1]
  by_cases h2 : c = c'
  rotate_left
  · simp [h, h0, h1, h2]
  by_cases h3 : i = i'
  rotate_left
  · simp [h, h0, h1, h2, h3]
  by_cases h4 : j = j'
  rotate_left
  · simp [h, h0, h1, h2, h3, h4]
  by_cases h5 : k = k'
  · simp [h, h0, h1, h2, h3, h4, h5]
  · simp [h, h0, h1, h2, h3, h4, h5]
set_option maxHeartbeats 4000000 in
theorem rsame02_any (w : World) (a b : Option Addr) (c d : Nat) (xs ys : List Mono) (hm : xs.length ≤ 9223372036854775807) (hm2 : ys.length ≤ 9223372036854775807) (h : monoRep.Els w a xs) (h2 : monoRep.Els w b ys) :
    Calls Try.prog 29 #[.slice a xs.length c, .slice b ys.length d] w fun e w' => e = .returned (.bool (sameL xs ys)) ∧ Below w.heap.size w w' := by
  obtain ⟨res, hres⟩ : ∃ r, sameL xs ys = r := ⟨_, rfl⟩
  rw [hres]
  have HI := Lib.hid h; have HJ := Lib.hid h2; have HRE := Lib.hid hres; clear h h2 hres
  by_cases hl : xs.length = ys.length
  · have hl' : ((xs.length : Int) != (ys.length : Int)) = false := by simp [hl]
    have Hl := Lib.hid hl; clear hl
    go_enter Try.func29, Try.ntmps29
    go_wp2
    go_loopw [5] (fun i wr => ∃ k : Nat, k ≤ xs.length ∧ i = .int .i64 k ∧ xs.take k = ys.take k ∧ Below w.heap.size w wr) (fun i _ => xs.length - (intOf i).toNat)
    case atStart => exact ⟨0, Nat.zero_le _, rfl, rfl, Below.refl _ _⟩
    case round =>
      obtain ⟨k, hk, rfl, ht, hbel⟩ := hrel
      by_cases hlt : k < xs.length
      · have hlt2 : k < ys.length := Hl.out ▸ hlt
        obtain ⟨b0, off, rfl, -, x0, x1, x2, x3, x4, x5, x6⟩ := els_mono (HI.out.below monoRep hbel (Nat.le_refl _)) hlt
        obtain ⟨b2, off2, rfl, -, y0, y1, y2, y3, y4, y5, y6⟩ := els_mono (HJ.out.below monoRep hbel (Nat.le_refl _)) hlt2
        have hz0 : (0 : Int) ≤ (k : Int) := by omega
        have hz1 : (k : Int) < (xs.length : Int) := by omega
        have hz2 : (k : Int) < (ys.length : Int) := by omega
        have hnx := fun he => take_eq_allL Hl.out hlt ht he
        have hnot := fun he => sameL_ne hlt hlt2 he
        have HBEL := Lib.hid hbel
        have hne := fun W => neqMono W xs[k] ys[k]
        generalize xs[k] = x at x0 x1 x2 x3 x4 x5 x6 hnx hnot hne
        generalize ys[k] = y at y0 y1 y2 y3 y4 y5 y6 hnx hnot hne
        unfold Mono.V at hne
        have f0 := cellBW x0; have f1 := cellBW x1; have f2 := cellBW x2; have f3 := cellBW x3; have f4 := cellBW x4; have f5 := cellBW x5; have f6 := cellBW x6
        have g0 := cellBW y0; have g1 := cellBW y1; have g2 := cellBW y2; have g3 := cellBW y3; have g4 := cellBW y4; have g5 := cellBW y5; have g6 := cellBW y6
        have HNX := Lib.hid hnx; have HNOT := Lib.hid hnot
        clear ht hbel x0 x1 x2 x3 x4 x5 x6 y0 y1 y2 y3 y4 y5 y6 hnx hnot
        go_upto_region 6 with fail
        by_cases he : x = y
        · rw [decide_eq_true he] at hne
          have HG := Lib.hid (HNX.out he)
          clear he
          refine wp_region_below (by kernel_rfl) (by kernel_rfl) ?_
          repeat (go_big_quiet_step (fail))
          refine wpQuiet_nil ?_
          rintro _ ⟨⟨wq, hwq⟩, rfl⟩
          have HQ := Lib.hid (HBEL.out.trans (hwq.mono HBEL.out.size))
          clear f0 f1 f2 f3 f4 f5 f6 g0 g1 g2 g3 g4 g5 g6
          go_wp2_with fail
          go_roundw
          case rel => exact ⟨k + 1, by omega, by go_num, HG.out, HQ.out⟩
          case measure => simp [intOf] <;> omega
        · rw [decide_eq_false he] at hne
          have HG := Lib.hid (show res = false by rw [← HRE.out, HNOT.out he])
          clear he
          refine wp_region_below (by kernel_rfl) (by kernel_rfl) ?_
          repeat (go_big_quiet_step (fail))
          refine wpQuiet_nil ?_
          rintro _ ⟨⟨wq, hwq⟩, rfl⟩
          have HQ := Lib.hid (HBEL.out.trans (hwq.mono HBEL.out.size))
          clear f0 f1 f2 f3 f4 f5 f6 g0 g1 g2 g3 g4 g5 g6
          go_wp2_with fail
          go_ret
          exact ⟨ret_bool HG.out.symm, HQ.out⟩
      · obtain rfl : xs.length = k := by omega
        have HG := Lib.hid (show res = true by rw [← HRE.out]; exact sameL_all Hl.out ht)
        have HQ := Lib.hid hbel
        clear ht hbel
        go_wp2
        go_ret
        exact ⟨ret_bool HG.out.symm, HQ.out⟩
  · have hl' : ((xs.length : Int) != (ys.length : Int)) = true := by simp; omega
    have HG := Lib.hid (show res = false by rw [← HRE.out]; exact sameL_len hl)
    clear hl
    go_enter Try.func29, Try.ntmps29
    go_wp2
    go_ret
    exact ⟨ret_bool HG.out.symm, Below.refl _ _⟩
end Go.Proofs.Ytmlfeocdcjhhaaa

namespace Go.Proofs.Ytmlfeocdcjhhaaa
set_option maxRecDepth 100000
open Go.RowKit
set_option linter.unusedVariables false
set_option linter.unusedSimpArgs false
attribute [local go_sem ↓] Go.wp_at_zero Go.wp_at_succ

set_option maxHeartbeats 8000000 in
theorem rops11_any (w : World) (a b : Option Addr) (c d : Nat) (xs ys : List Cop) (hm : xs.length ≤ 9223372036854775807) (hm2 : ys.length ≤ 9223372036854775807) (h : copRep.Els w a xs) (h2 : copRep.Els w b ys) :
    Calls Try.prog 12 #[.slice a xs.length c, .slice b ys.length d] w fun e w' => e = .returned (.bool (sameL xs ys)) ∧ Below w.heap.size w w' := by
  obtain ⟨res, hres⟩ : ∃ r, sameL xs ys = r := ⟨_, rfl⟩
  rw [hres]
  have HI := Lib.hid h; have HJ := Lib.hid h2; have HRE := Lib.hid hres; clear h h2 hres
  by_cases hl : xs.length = ys.length
  · have hl' : ((xs.length : Int) != (ys.length : Int)) = false := by simp [hl]
    have Hl := Lib.hid hl; clear hl
    go_enter Try.func12, Try.ntmps12
    go_wp2
    go_loopw [5] (fun i wr => ∃ k : Nat, k ≤ xs.length ∧ i = .int .i64 k ∧ xs.take k = ys.take k ∧ Below w.heap.size w wr) (fun i _ => xs.length - (intOf i).toNat)
    case atStart => exact ⟨0, Nat.zero_le _, rfl, rfl, Below.refl _ _⟩
    case round =>
      obtain ⟨k, hk, rfl, ht, hbel⟩ := hrel
      by_cases hlt : k < xs.length
      · have hlt2 : k < ys.length := Hl.out ▸ hlt
        obtain ⟨b0, off, pa, pc, rfl, x0, x1, x2, x3, x4, hp, hpl⟩ := els_cop (HI.out.below copRep hbel (Nat.le_refl _)) hlt
        obtain ⟨b2, off2, qa, qc, rfl, y0, y1, y2, y3, y4, hq, hql⟩ := els_cop (HJ.out.below copRep hbel (Nat.le_refl _)) hlt2
        have hz0 : (0 : Int) ≤ (k : Int) := by omega
        have hz1 : (k : Int) < (xs.length : Int) := by omega
        have hz2 : (k : Int) < (ys.length : Int) := by omega
        have hnx := fun he => take_eq_allL Hl.out hlt ht he
        have hnot := fun he => sameL_ne hlt hlt2 he
        have HBEL := Lib.hid hbel
        generalize xs[k] = x at x0 x1 x2 x3 x4 hnx hnot hp hpl
        generalize ys[k] = y at y0 y1 y2 y3 y4 hnx hnot hq hql
        have HS := Lib.hid (fun p : BelowW wr => rsame02_any p.world pa qa pc qc x.p y.p hpl hql (hp.below monoRep p.below (Nat.le_refl _)) (hq.below monoRep p.below (Nat.le_refl _)))
        have f0 := cellBW x0; have f1 := cellBW x1; have f2 := cellBW x2; have f3 := cellBW x3; have f4 := cellBW x4
        have g0 := cellBW y0; have g1 := cellBW y1; have g2 := cellBW y2; have g3 := cellBW y3; have g4 := cellBW y4
        have HNX := Lib.hid hnx; have HNOT := Lib.hid hnot
        clear ht hbel x0 x1 x2 x3 x4 y0 y1 y2 y3 y4 hnx hnot hp hq hpl hql
        go_upto_region 6 with fail
        by_cases e0 : x.how = y.how
        rotate_left
        · have q0 : (x.how != y.how) = true := by simpa using e0
          have HG := Lib.hid (show res = false by rw [← HRE.out, HNOT.out (fun e => e0 (by rw [e]))])
          clear e0 HS HNX HNOT
          refine wp_region_below (by kernel_rfl) (by kernel_rfl) ?_
          repeat (go_big_quiet_step (fail))
          refine wpQuiet_nil ?_
          rintro _ ⟨⟨wq, hwq⟩, rfl⟩
          have HQ := Lib.hid (HBEL.out.trans (hwq.mono HBEL.out.size))
          clear f0 f1 f2 f3 f4 g0 g1 g2 g3 g4
          go_wp2_with fail
          go_ret
          exact ⟨ret_bool HG.out.symm, HQ.out⟩
        have q0 : (x.how != y.how) = false := by simpa using e0
        by_cases e1 : x.k = y.k
        rotate_left
        · have q1 : (x.k != y.k) = true := by simpa using e1
          have HG := Lib.hid (show res = false by rw [← HRE.out, HNOT.out (fun e => e1 (by rw [e]))])
          clear e0 e1 HS HNX HNOT
          refine wp_region_below (by kernel_rfl) (by kernel_rfl) ?_
          repeat (go_big_quiet_step (fail))
          refine wpQuiet_nil ?_
          rintro _ ⟨⟨wq, hwq⟩, rfl⟩
          have HQ := Lib.hid (HBEL.out.trans (hwq.mono HBEL.out.size))
          clear f0 f1 f2 f3 f4 g0 g1 g2 g3 g4
          go_wp2_with fail
          go_ret
          exact ⟨ret_bool HG.out.symm, HQ.out⟩
        have q1 : (x.k != y.k) = false := by simpa using e1
        by_cases e2 : x.n = y.n
        rotate_left
        · have q2 : (x.n != y.n) = true := by simpa using e2
          have HG := Lib.hid (show res = false by rw [← HRE.out, HNOT.out (fun e => e2 (by rw [e]))])
          clear e0 e1 e2 HS HNX HNOT
          refine wp_region_below (by kernel_rfl) (by kernel_rfl) ?_
          repeat (go_big_quiet_step (fail))
          refine wpQuiet_nil ?_
          rintro _ ⟨⟨wq, hwq⟩, rfl⟩
          have HQ := Lib.hid (HBEL.out.trans (hwq.mono HBEL.out.size))
          clear f0 f1 f2 f3 f4 g0 g1 g2 g3 g4
          go_wp2_with fail
          go_ret
          exact ⟨ret_bool HG.out.symm, HQ.out⟩
        have q2 : (x.n != y.n) = false := by simpa using e2
        by_cases e3 : x.fn = y.fn
        rotate_left
        · have q3 : (x.fn != y.fn) = true := by simpa using e3
          have HG := Lib.hid (show res = false by rw [← HRE.out, HNOT.out (fun e => e3 (by rw [e]))])
          clear e0 e1 e2 e3 HS HNX HNOT
          refine wp_region_below (by kernel_rfl) (by kernel_rfl) ?_
          repeat (go_big_quiet_step (fail))
          refine wpQuiet_nil ?_
          rintro _ ⟨⟨wq, hwq⟩, rfl⟩
          have HQ := Lib.hid (HBEL.out.trans (hwq.mono HBEL.out.size))
          clear f0 f1 f2 f3 f4 g0 g1 g2 g3 g4
          go_wp2_with fail
          go_ret
          exact ⟨ret_bool HG.out.symm, HQ.out⟩
        have q3 : (x.fn != y.fn) = false := by simpa using e3
        by_cases e4 : x.p = y.p
        · have HG := Lib.hid (HNX.out (Cop.ext' e0 e1 e2 e4 e3))
          have hs : sameL x.p y.p = true := decide_eq_true e4
          rw [hs] at HS
          clear e0 e1 e2 e3 e4 HNX HNOT hs
          refine wp_region_below (by kernel_rfl) (by kernel_rfl) ?_
          repeat (go_big_quiet_step (refine callsBW (HS.out _)))
          refine wpQuiet_nil ?_
          rintro _ ⟨⟨wq, hwq⟩, rfl⟩
          have HQ := Lib.hid (HBEL.out.trans (hwq.mono HBEL.out.size))
          clear f0 f1 f2 f3 f4 g0 g1 g2 g3 g4 HS
          go_wp2_with fail
          go_roundw
          case rel => exact ⟨k + 1, by omega, by go_num, HG.out, HQ.out⟩
          case measure => simp [intOf] <;> omega
        · have HG := Lib.hid (show res = false by rw [← HRE.out, HNOT.out (fun e => e4 (by rw [e]))])
          have hs : sameL x.p y.p = false := decide_eq_false e4
          rw [hs] at HS
          clear e0 e1 e2 e3 e4 HNX HNOT hs
          refine wp_region_below (by kernel_rfl) (by kernel_rfl) ?_
          repeat (go_big_quiet_step (refine callsBW (HS.out _)))
          refine wpQuiet_nil ?_
          rintro _ ⟨⟨wq, hwq⟩, rfl⟩
          have HQ := Lib.hid (HBEL.out.trans (hwq.mono HBEL.out.size))
          clear f0 f1 f2 f3 f4 g0 g1 g2 g3 g4 HS
          go_wp2_with fail
          go_ret
          exact ⟨ret_bool HG.out.symm, HQ.out⟩
      · obtain rfl : xs.length = k := by omega
        have HG := Lib.hid (show res = true by rw [← HRE.out]; exact sameL_all Hl.out ht)
        have HQ := Lib.hid hbel
        clear ht hbel
        go_wp2
        go_ret
        exact ⟨ret_bool HG.out.symm, HQ.out⟩
  · have hl' : ((xs.length : Int) != (ys.length : Int)) = true := by simp; omega
    have HG := Lib.hid (show res = false by rw [← HRE.out]; exact sameL_len hl)
    clear hl
    go_enter Try.func12, Try.ntmps12
    go_wp2
    go_ret
    exact ⟨ret_bool HG.out.symm, Below.refl _ _⟩
end Go.Proofs.Ytmlfeocdcjhhaaa
