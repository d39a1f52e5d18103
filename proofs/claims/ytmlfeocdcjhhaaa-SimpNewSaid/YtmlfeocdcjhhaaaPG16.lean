import Derived.Test.YtmlfeocdcjhhaaaPG15
import Derived.Laws.StructEq
import Derived.Deep.DeepCutAuto
import Derived.Deep.CutBlock
namespace Go.Proofs.Ytmlfeocdcjhhaaa
set_option maxRecDepth 100000
open Go.RowKit
set_option linter.unusedVariables false
set_option linter.unusedSimpArgs false
attribute [local go_sem ↓] Go.wp_at_zero Go.wp_at_succ

/-! simp.value, simp.monad. -/
theorem field_zero (W : World) : (Instr.field 47 (.agg #[.int .i64 0, .int .u8 0, .int .u8 0, .int .u8 0, .int .u8 0, .int .u8 0, .int .u8 0]) 1).run Try.prog W = .ok (.agg #[.int .u8 0, .int .u8 0, .int .u8 0, .int .u8 0, .int .u8 0, .int .u8 0]) W := by kernel_rfl
theorem size_u8 (W : World) : (sizeOf 5).run Try.prog W = .ok 1 W := by kernel_rfl
theorem part0 (a b c d e f : Value) (W : World) : (part 5 #[a, b, c, d, e, f] 0).run Try.prog W = .ok a W := by kernel_rfl
theorem part1 (a b c d e f : Value) (W : World) : (part 5 #[a, b, c, d, e, f] 1).run Try.prog W = .ok b W := by kernel_rfl
theorem part2 (a b c d e f : Value) (W : World) : (part 5 #[a, b, c, d, e, f] 2).run Try.prog W = .ok c W := by kernel_rfl
theorem part3 (a b c d e f : Value) (W : World) : (part 5 #[a, b, c, d, e, f] 3).run Try.prog W = .ok d W := by kernel_rfl
theorem part4 (a b c d e f : Value) (W : World) : (part 5 #[a, b, c, d, e, f] 4).run Try.prog W = .ok e W := by kernel_rfl
theorem part5 (a b c d e f : Value) (W : World) : (part 5 #[a, b, c, d, e, f] 5).run Try.prog W = .ok f W := by kernel_rfl
theorem eq_u8 (n : Nat) (a b : Int) (W : World) : (Op.equalIn (n + 1) 5 (.int .u8 a) (.int .u8 b)).run Try.prog W = .ok (a == b) W := run_equalIn_int W n 5 .u8 .u8 a b Try.underlying5
theorem eq_six (W : World) (a0 a1 a2 a3 a4 a5 : Int) : (Op.equalIn 10000 45 (.agg #[.int .u8 a0, .int .u8 a1, .int .u8 a2, .int .u8 a3, .int .u8 a4, .int .u8 a5]) (.agg #[.int .u8 0, .int .u8 0, .int .u8 0, .int .u8 0, .int .u8 0, .int .u8 0])).run Try.prog W
    = .ok (a0 == 0 && (a1 == 0 && (a2 == 0 && (a3 == 0 && (a4 == 0 && a5 == 0))))) W := by
  show (Op.equalIn (9999 + 1) 45 _ _).run Try.prog W = _
  rw [Op.equalIn]
  simp only [Sem.run_bind, run_underlying Try.underlying45, Result.andThen_ok, size_u8]
  simp only [Std.Legacy.Range.forIn_eq_forIn_range', Std.Legacy.Range.size, List.range', Nat.mul_one]
  have e := fun a b w => eq_u8 9998 a b w
  simp only [Nat.reduceAdd] at e
  simp only [Nat.zero_add, Nat.reduceAdd, List.forIn_cons, List.forIn_nil, Sem.run_bind]
  cases h0 : (a0 == 0)
  · simp [part0, e, h0, Result.andThen_ok]
  cases h1 : (a1 == 0)
  · simp [part0, part1, e, h0, h1, Result.andThen_ok]
  cases h2 : (a2 == 0)
  · simp [part0, part1, part2, e, h0, h1, h2, Result.andThen_ok]
  cases h3 : (a3 == 0)
  · simp [part0, part1, part2, part3, e, h0, h1, h2, h3, Result.andThen_ok]
  cases h4 : (a4 == 0)
  · simp [part0, part1, part2, part3, part4, e, h0, h1, h2, h3, h4, Result.andThen_ok]
  cases h5 : (a5 == 0) <;> simp [part0, part1, part2, part3, part4, part5, e, h0, h1, h2, h3, h4, h5, Result.andThen_ok]
attribute [local go_sem] field_zero eq_six
/-- an operation as an argument -/
def opV (o : Cop) (pa : Option Addr) (pc : Nat) : Value := .agg #[.int .i64 o.how, .int .i64 o.k, .int .i64 o.n, .slice pa o.p.length pc, .int .u8 o.fn]
/-- its box -/
structure OpBox (w W : World) (z : Nat) (o : Cop) (v : Value) : Prop where
  x : W.heap[z]? = some (.cells #[.int .i64 o.how, .int .i64 o.k, .int .i64 o.n, v, .int .u8 o.fn] 44 (0, 0))
  b : Below w.heap.size w W
theorem OpBox.next {w W W' : World} {z : Nat} {o : Cop} {v : Value} (h : OpBox w W z o v) (hb : Below W.heap.size W W') : OpBox w W' z o v := ⟨block_below h.x hb, bNext hb h.b⟩
theorem OpBox.new (w : World) (o : Cop) (v : Value) : OpBox w (w.alloc (.cells #[.int .i64 o.how, .int .i64 o.k, .int .i64 o.n, v, .int .u8 o.fn] 44)) w.heap.size o v := ⟨World.alloc_heap_new _ _, (Below.refl _ _).alloc (Nat.le_refl _) _⟩
theorem OpBox.c0 {w W : World} {z : Nat} {o : Cop} {v : Value} (h : OpBox w W z o v) : W.cell? ⟨z, 0, none⟩ = some (.int .i64 o.how) := cell_of_row W z 0 _ _ _ h.x
theorem OpBox.c1 {w W : World} {z : Nat} {o : Cop} {v : Value} (h : OpBox w W z o v) : W.cell? ⟨z, 1, none⟩ = some (.int .i64 o.k) := cell_of_row W z 1 _ _ _ h.x
theorem OpBox.c2 {w W : World} {z : Nat} {o : Cop} {v : Value} (h : OpBox w W z o v) : W.cell? ⟨z, 2, none⟩ = some (.int .i64 o.n) := cell_of_row W z 2 _ _ _ h.x
theorem OpBox.c3 {w W : World} {z : Nat} {o : Cop} {v : Value} (h : OpBox w W z o v) : W.cell? ⟨z, 3, none⟩ = some v := cell_of_row W z 3 _ _ _ h.x
theorem OpBox.c4 {w W : World} {z : Nat} {o : Cop} {v : Value} (h : OpBox w W z o v) : W.cell? ⟨z, 4, none⟩ = some (.int .u8 o.fn) := cell_of_row W z 4 _ _ _ h.x
theorem MonS.els {B : Bd} {w : World} {a : Option Addr} {n c : Nat} {p : List Mono} (h : MonS B w (.slice a n c) p) : monoRep.Els w a p := by
  obtain ⟨⟨a', c', e, _, _, _, hx⟩, _⟩ := h
  simp only [Value.slice.injEq] at e
  rw [e.1]; exact hx
theorem value_0 {o : Cop} (h : o.p = []) : valueC o = [numC 0] := by unfold valueC; rw [h]
theorem value_1 {o : Cop} {m : Mono} (h : o.p = [m]) : valueC o = if flatE m then [numC m.n] else [o] := by unfold valueC; rw [h]
theorem value_2 {o : Cop} (h : 1 < o.p.length) : valueC o = [o] := by
  unfold valueC
  split
  · rename_i e; rw [e] at h; simp at h
  · rename_i m e; rw [e] at h; simp at h
  · rfl
theorem value13_0 (w : World) (B0 B : Bd) (hB : B ≤ w.heap.size) (o : Cop) (pa : Option Addr) (pc : Nat) (hp : MonS B0 w (.slice pa o.p.length pc) o.p) (h0 : o.p = []) : Calls Try.prog 53 #[opV o pa pc] w (RetC B w (valueC o)) := by
  rw [value_0 h0]
  have hl : o.p.length = 0 := by rw [h0]; rfl
  have HN := Lib.hid (fun W hL => numC_any W B hL 0 (by unfold I64; omega))
  have HO := Lib.hid (OpBox.new w o (.slice pa 0 pc))
  unfold opV
  rw [hl]
  clear hp h0 hl
  go_enter Try.func53, Try.ntmps53
  go_upto_region 1 with fail
  refine gen_worldA (fun W => OpBox w W w.heap.size o (.slice pa 0 pc)) HO.out ?_
  rintro W hO
  have x3 := hO.c3
  have HQ := Lib.hid (HN.out W (Nat.le_trans (Bd.low hB) hO.b.size))
  have HO := Lib.hid hO
  clear hO HN
  go_wp2_with fail
  refine HQ.out.mono ?_
  rintro e w1 ⟨⟨v, rfl, hv⟩, hb⟩
  go_wp2_with fail
  go_ret
  exact ⟨⟨_, rfl, hv⟩, bNext hb HO.out.b⟩
set_option maxHeartbeats 1000000 in
theorem value13_1 (w : World) (B0 B : Bd) (hB : B ≤ w.heap.size) (o : Cop) (m : Mono) (pa : Option Addr) (pc : Nat) (hp : MonS B0 w (.slice pa o.p.length pc) o.p) (h0 : o.p = [m]) (hf : flatE m = true) : Calls Try.prog 53 #[opV o pa pc] w (RetC B w (valueC o)) := by
  rw [value_1 h0, if_pos hf]
  have hl : o.p.length = 1 := by rw [h0]; rfl
  obtain ⟨b, off, rfl, hwf, y0, y1, y2, y3, y4, y5, y6⟩ := els_mono hp.els (k := 0) (by rw [hl]; omega)
  simp only [h0, List.getElem_cons_zero, Nat.zero_mul, Nat.add_zero] at hwf y0 y1 y2 y3 y4 y5 y6
  have hfe : m.e0 = 0 ∧ m.e1 = 0 ∧ m.e2 = 0 ∧ m.e3 = 0 ∧ m.e4 = 0 ∧ m.e5 = 0 := by unfold flatE Mono.E at hf; simpa using hf
  obtain ⟨e0, e1, e2, e3, e4, e5⟩ := hfe
  rw [e0] at y1; rw [e1] at y2; rw [e2] at y3; rw [e3] at y4; rw [e4] at y5; rw [e5] at y6
  have HN := Lib.hid (fun W hL => numC_any W B hL m.n hwf.n)
  have HO := Lib.hid (OpBox.new w o (.slice (some ⟨b, off, none⟩) 1 pc))
  unfold opV
  rw [hl]
  clear hp h0 hl hf hwf e0 e1 e2 e3 e4 e5
  go_enter Try.func53, Try.ntmps53
  go_upto_region 1 with fail
  refine gen_worldA (fun W => OpBox w W w.heap.size o (.slice (some ⟨b, off, none⟩) 1 pc)) HO.out ?_
  rintro W hO
  have x3 := hO.c3
  have y0 := keepCell hO.b y0; have y1 := keepCell hO.b y1; have y2 := keepCell hO.b y2; have y3 := keepCell hO.b y3; have y4 := keepCell hO.b y4; have y5 := keepCell hO.b y5; have y6 := keepCell hO.b y6
  have HQ := Lib.hid (HN.out W (Nat.le_trans (Bd.low hB) hO.b.size))
  have HO := Lib.hid hO
  clear hO HN
  go_wp2_with fail
  refine HQ.out.mono ?_
  rintro e w1 ⟨⟨v, rfl, hv⟩, hb⟩
  go_wp2_with fail
  go_ret
  exact ⟨⟨_, rfl, hv⟩, bNext hb HO.out.b⟩
set_option maxHeartbeats 2000000 in
theorem value13_n (w : World) (B0 B : Bd) (hB : B ≤ w.heap.size) (o : Cop) (m : Mono) (pa : Option Addr) (pc : Nat) (hp : MonS B0 w (.slice pa o.p.length pc) o.p) (ho : OkO o) (h0 : o.p = [m]) (hf : flatE m = false) : Calls Try.prog 53 #[opV o pa pc] w (RetC B w (valueC o)) := by
  rw [value_1 h0, if_neg (by rw [hf]; decide)]
  have hl : o.p.length = 1 := by rw [h0]; rfl
  have HC := Lib.hid (fun W hL (h : MonS B0 W (.slice pa o.p.length pc) o.p) => cloneM_any W B0 B hL pa pc o.p h (by omega))
  have HP := Lib.hid hp; have OKO := Lib.hid ho; have HB0 := Lib.hid hB; have HLL := Lib.hid hl
  obtain ⟨b, off, rfl, hwf, y0, y1, y2, y3, y4, y5, y6⟩ := els_mono hp.els (k := 0) (by rw [hl]; omega)
  simp only [h0, List.getElem_cons_zero, Nat.zero_mul, Nat.add_zero] at hwf y0 y1 y2 y3 y4 y5 y6
  have hfe : (m.e0 == 0 && (m.e1 == 0 && (m.e2 == 0 && (m.e3 == 0 && (m.e4 == 0 && m.e5 == 0))))) = false := by rw [← hf]; unfold flatE Mono.E; simp [List.cons_beq_cons]
  have HO := Lib.hid (OpBox.new w o (.slice (some ⟨b, off, none⟩) o.p.length pc))
  unfold opV
  clear hp h0 hf hwf ho hB
  go_enter Try.func53, Try.ntmps53
  go_upto_region 1 with fail
  refine gen_worldA (fun W => OpBox w W w.heap.size o (.slice (some ⟨b, off, none⟩) o.p.length pc)) (by rw [hl]; rw [hl] at HO; exact HO.out) ?_
  rintro W hO
  rw [hl] at hO
  have x0 := hO.c0; have x1 := hO.c1; have x2 := hO.c2; have x3 := hO.c3; have x4 := hO.c4
  have y0 := keepCell hO.b y0; have y1 := keepCell hO.b y1; have y2 := keepCell hO.b y2; have y3 := keepCell hO.b y3; have y4 := keepCell hO.b y4; have y5 := keepCell hO.b y5; have y6 := keepCell hO.b y6
  have hq := HC.out W (Nat.le_trans (Bd.low HB0.out) hO.b.size) ((HP.out).below hO.b)
  rw [hl] at hq
  have HQ := Lib.hid hq
  have HO := Lib.hid hO
  clear hO HC hq hl
  go_wp2_with fail
  refine HQ.out.mono ?_
  rintro e w1 ⟨⟨v1, rfl, hv1⟩, hb1⟩
  have HO1 := Lib.hid (HO.out.next hb1)
  have hm1 := hv1
  obtain ⟨va, vc, rfl, -, -⟩ := Rep.Sl.form hv1.1
  have g3 := frozen_of_row w1 w.heap.size 3 _ _ HO1.out.x
  have hlt : w.heap.size < w1.heap.size := (Array.getElem?_eq_some_iff.1 HO1.out.x).1
  have hk : KeepTy 47 w1 (w1.setCell ⟨w.heap.size, 3, none⟩ (.slice va o.p.length vc)) := KeepTy.setCell (p := ⟨w.heap.size, 3, none⟩) (NotTy.of HO1.out.x (by decide)) _
  have hbB : Below B w1 (w1.setCell ⟨w.heap.size, 3, none⟩ (.slice va o.p.length vc)) := (Below.refl B.hi w1).setCell (by show B ≤ w.heap.size; exact HB0.out) _
  have hx2 := heap_setCell_same w1 w.heap.size 3 _ _ (.slice va o.p.length vc) HO1.out.x
  have HO2 := Lib.hid (show OpBox w (w1.setCell ⟨w.heap.size, 3, none⟩ (.slice va o.p.length vc)) w.heap.size o (.slice va o.p.length vc) from ⟨hx2, HO1.out.b.setCell (Nat.le_refl _) _⟩)
  have HM2 := Lib.hid (hm1.keep hbB hk)
  have y30 := HO1.out.c0; have y31 := HO1.out.c1; have y32 := HO1.out.c2; have y33 := HO1.out.c3; have y34 := HO1.out.c4
  clear HQ hm1 hv1 hb1 hk hbB hx2 x0 x1 x2 x3 x4
  go_upto_region 6 with fail
  refine gen_worldA (fun W => OpBox w W w.heap.size o (.slice va o.p.length vc) ∧ MonS B W (.slice va o.p.length vc) o.p) ⟨HO2.out, HM2.out⟩ ?_
  rintro W2 ⟨hO, hM⟩
  clear HO2 HM2 y30 y31 y32 y33 y34 g3 HO1 hlt
  have y30 := hO.c0; have y31 := hO.c1; have y32 := hO.c2; have y33 := hO.c3; have y34 := hO.c4
  obtain ⟨G, hG⟩ : ∃ G, W2.heap.size = G := ⟨_, rfl⟩
  have HL := Lib.hid (lit_one W2 B G (by rw [← hG]; exact Nat.le_trans (Bd.low HB0.out) hO.b.size) o _ hG hM OKO.out)
  have HO2 := Lib.hid hO
  clear hO hM
  go_wp2_with fail
  go_ret
  exact ⟨⟨_, rfl, HL.out⟩, HO2.out.b.alloc HO2.out.b.size _⟩
set_option maxHeartbeats 2000000 in
theorem value13_2 (w : World) (B0 B : Bd) (hB : B ≤ w.heap.size) (o : Cop) (pa : Option Addr) (pc : Nat) (hp : MonS B0 w (.slice pa o.p.length pc) o.p) (ho : OkO o) (h1 : 1 < o.p.length) (hl : o.p.length ≤ 1048576) : Calls Try.prog 53 #[opV o pa pc] w (RetC B w (valueC o)) := by
  rw [value_2 h1]
  have HC := Lib.hid (fun W hL (h : MonS B0 W (.slice pa o.p.length pc) o.p) => cloneM_any W B0 B hL pa pc o.p h hl)
  have HP := Lib.hid hp; have OKO := Lib.hid ho; have HB0 := Lib.hid hB
  have HO := Lib.hid (OpBox.new w o (.slice pa o.p.length pc))
  have l0 : ((o.p.length : Int) == 0) = false := by rw [beq_eq_false_iff_ne]; omega
  have l1 : ((o.p.length : Int) == 1) = false := by rw [beq_eq_false_iff_ne]; omega
  unfold opV
  clear hp ho hB h1
  go_enter Try.func53, Try.ntmps53
  go_upto_region 1 with fail
  refine gen_worldA (fun W => OpBox w W w.heap.size o (.slice pa o.p.length pc)) HO.out ?_
  rintro W hO
  have x0 := hO.c0; have x1 := hO.c1; have x2 := hO.c2; have x3 := hO.c3; have x4 := hO.c4
  have HQ := Lib.hid (HC.out W (Nat.le_trans (Bd.low HB0.out) hO.b.size) ((HP.out).below hO.b))
  have HO := Lib.hid hO
  clear hO HC
  go_wp2_with fail
  refine HQ.out.mono ?_
  rintro e w1 ⟨⟨v1, rfl, hv1⟩, hb1⟩
  have HO1 := Lib.hid (HO.out.next hb1)
  have hm1 := hv1
  obtain ⟨va, vc, rfl, -, -⟩ := Rep.Sl.form hv1.1
  have g3 := frozen_of_row w1 w.heap.size 3 _ _ HO1.out.x
  have hlt : w.heap.size < w1.heap.size := (Array.getElem?_eq_some_iff.1 HO1.out.x).1
  have hk : KeepTy 47 w1 (w1.setCell ⟨w.heap.size, 3, none⟩ (.slice va o.p.length vc)) := KeepTy.setCell (p := ⟨w.heap.size, 3, none⟩) (NotTy.of HO1.out.x (by decide)) _
  have hbB : Below B w1 (w1.setCell ⟨w.heap.size, 3, none⟩ (.slice va o.p.length vc)) := (Below.refl B.hi w1).setCell (by show B ≤ w.heap.size; exact HB0.out) _
  have hx2 := heap_setCell_same w1 w.heap.size 3 _ _ (.slice va o.p.length vc) HO1.out.x
  have HO2 := Lib.hid (show OpBox w (w1.setCell ⟨w.heap.size, 3, none⟩ (.slice va o.p.length vc)) w.heap.size o (.slice va o.p.length vc) from ⟨hx2, HO1.out.b.setCell (Nat.le_refl _) _⟩)
  have HM2 := Lib.hid (hm1.keep hbB hk)
  have y30 := HO1.out.c0; have y31 := HO1.out.c1; have y32 := HO1.out.c2; have y33 := HO1.out.c3; have y34 := HO1.out.c4
  clear HQ hm1 hv1 hb1 hk hbB hx2 x0 x1 x2 x3 x4
  go_upto_region 6 with fail
  refine gen_worldA (fun W => OpBox w W w.heap.size o (.slice va o.p.length vc) ∧ MonS B W (.slice va o.p.length vc) o.p) ⟨HO2.out, HM2.out⟩ ?_
  rintro W2 ⟨hO, hM⟩
  clear HO2 HM2 y30 y31 y32 y33 y34 g3 HO1 hlt
  have y30 := hO.c0; have y31 := hO.c1; have y32 := hO.c2; have y33 := hO.c3; have y34 := hO.c4
  obtain ⟨G, hG⟩ : ∃ G, W2.heap.size = G := ⟨_, rfl⟩
  have HL := Lib.hid (lit_one W2 B G (by rw [← hG]; exact Nat.le_trans (Bd.low HB0.out) hO.b.size) o _ hG hM OKO.out)
  have HO2 := Lib.hid hO
  clear hO hM
  go_wp2_with fail
  go_ret
  exact ⟨⟨_, rfl, HL.out⟩, HO2.out.b.alloc HO2.out.b.size _⟩
theorem value13_any (w : World) (B0 B : Bd) (hB : B ≤ w.heap.size) (o : Cop) (pa : Option Addr) (pc : Nat) (hp : MonS B0 w (.slice pa o.p.length pc) o.p) (ho : OkO o) (hl : o.p.length ≤ 1048576) : Calls Try.prog 53 #[opV o pa pc] w (RetC B w (valueC o)) := by
  rcases Nat.lt_or_ge 1 o.p.length with h | h
  · exact value13_2 w B0 B hB o pa pc hp ho h hl
  · rcases Nat.eq_zero_or_pos o.p.length with h0 | h0
    · exact value13_0 w B0 B hB o pa pc hp (List.eq_nil_of_length_eq_zero h0)
    · obtain ⟨m, hm⟩ := List.length_eq_one_iff.1 (show o.p.length = 1 by omega)
      cases hf : flatE m with
      | true => exact value13_1 w B0 B hB o m pa pc hp hm hf
      | false => exact value13_n w B0 B hB o m pa pc hp ho hm hf
end Go.Proofs.Ytmlfeocdcjhhaaa

namespace Go.Proofs.Ytmlfeocdcjhhaaa
set_option maxRecDepth 100000
open Go.RowKit
set_option linter.unusedVariables false
set_option linter.unusedSimpArgs false
attribute [local go_sem ↓] Go.wp_at_zero Go.wp_at_succ

/-! simp.monad. -/
theorem CopS.els {B : Bd} {w : World} {a : Option Addr} {n c : Nat} {l : List Cop} (h : CopS B w (.slice a n c) l) : copRep.Els w a l := by
  obtain ⟨a', c', e, _, hx⟩ := h.form
  simp only [Value.slice.injEq] at e
  rw [e.1]; exact hx
theorem CopS.le {B : Bd} {w : World} {v : Value} {l : List Cop} (h : CopS B w v l) : l.length ≤ 9223372036854775807 := by
  obtain ⟨_, _, _, h, _⟩ := h.form; exact h
theorem CopS.len {B : Bd} {w : World} {a : Option Addr} {n c : Nat} {l : List Cop} (h : CopS B w (.slice a n c) l) : l.length = n := by
  obtain ⟨a', c', e, _, hx⟩ := h.form
  simp only [Value.slice.injEq] at e
  exact e.2.1.symm
theorem known_in {B : Bd} {w : World} {v : Value} {l : List Cop} (h : CopS B w v l) {n : Int} (hk : knownC l = some n) : In64 n := by
  unfold knownC at hk
  split at hk
  · rename_i o
    split at hk
    · injection hk with hk
      have := (h.ok o (by simp)).n
      rw [← hk]; exact this
    · cases hk
  · cases hk
theorem i64_in {n : Int} (h : In64 n) : I64 n := h
theorem monadC_x {x : List Cop} {o : Cop} (h : o.fn = 1 ∨ o.fn = 6 ∨ o.fn = 7) : monadC x o = x := by unfold monadC; rw [if_pos h]
theorem monadC_none {x : List Cop} {o : Cop} (h : ¬ (o.fn = 1 ∨ o.fn = 6 ∨ o.fn = 7)) (h1 : oneC o.fn x = none) : monadC x o = x ++ [o] := by unfold monadC; rw [if_neg h, h1]
theorem monadC_some {x : List Cop} {o : Cop} {m : Int} (h : ¬ (o.fn = 1 ∨ o.fn = 6 ∨ o.fn = 7)) (h1 : oneC o.fn x = some m) : monadC x o = [numC m] := by unfold monadC; rw [if_neg h, h1]
theorem monad13_x (w : World) (B : Bd) (hB : B ≤ w.heap.size) (a : Option Addr) (c : Nat) (x : List Cop) (hx : CopS B w (.slice a x.length c) x) (hl : x.length + 1 ≤ 2513169434843) (o : Cop) (pa : Option Addr) (pc : Nat) (hp : MonS B w (.slice pa o.p.length pc) o.p) (ho : OkO o)
    (h : o.fn = 1 ∨ o.fn = 6 ∨ o.fn = 7) : Calls Try.prog 55 #[.slice a x.length c, opV o pa pc] w (RetC B w (monadC x o)) := by
  rw [monadC_x h]
  rcases h with h | h | h
  all_goals
    have HF := Lib.hid h
    clear h
    have HX := Lib.hid hx; have HP := Lib.hid hp; have OKO := Lib.hid ho; have HB0 := Lib.hid hB; have HLL := Lib.hid hl
    have HO := Lib.hid (OpBox.new w o (.slice pa o.p.length pc))
    have hm := hx.le
    unfold opV
    clear hx hp ho hB hl
    go_enter Try.func55, Try.ntmps55
    go_upto_region 1 with fail
    refine gen_worldA (fun W => OpBox w W w.heap.size o (.slice pa o.p.length pc)) HO.out ?_
    rintro W hO
    have x4 := hO.c4
    have HO := Lib.hid hO
    clear hO
    rw [HF.out] at x4
    go_wp2_with fail
    go_ret
    exact ⟨⟨_, rfl, HX.out.below HO.out.b⟩, HO.out.b⟩
theorem monad13_y (w : World) (B : Bd) (hB : B ≤ w.heap.size) (a : Option Addr) (c : Nat) (x : List Cop) (hx : CopS B w (.slice a x.length c) x) (hl : x.length + 1 ≤ 2513169434843) (o : Cop) (pa : Option Addr) (pc : Nat) (hp : MonS B w (.slice pa o.p.length pc) o.p) (ho : OkO o)
    (h : ¬ (o.fn = 1 ∨ o.fn = 6 ∨ o.fn = 7)) : Calls Try.prog 55 #[.slice a x.length c, opV o pa pc] w (RetC B w (monadC x o)) := by
  have n1 : (o.fn == 1) = false := by rw [beq_eq_false_iff_ne]; omega
  have n6 : (o.fn == 6) = false := by rw [beq_eq_false_iff_ne]; omega
  have n7 : (o.fn == 7) = false := by rw [beq_eq_false_iff_ne]; omega
  cases hk : knownC x with
  | none =>
    rw [monadC_none h (by unfold oneC; rw [hk])]
    have HKN := Lib.hid hk
    clear h hk
    have HX := Lib.hid hx; have HP := Lib.hid hp; have OKO := Lib.hid ho; have HB0 := Lib.hid hB; have HLL := Lib.hid hl
    have HO := Lib.hid (OpBox.new w o (.slice pa o.p.length pc))
    have hm := hx.le
    unfold opV
    clear hx hp ho hB hl
    go_enter Try.func55, Try.ntmps55
    go_upto_region 1 with fail
    refine gen_worldA (fun W => OpBox w W w.heap.size o (.slice pa o.p.length pc)) HO.out ?_
    rintro W hO
    have x4 := hO.c4
    have HO := Lib.hid hO
    clear hO
    have hq := known_any W a c x (HX.out.below HO.out.b).els hm
    rw [HKN.out] at hq
    have HQ := Lib.hid hq
    clear hq
    go_wp2_with fail
    refine HQ.out.mono ?_
    rintro e W1 ⟨rfl, hb⟩
    have HO := Lib.hid (HO.out.next hb)
    clear hb x4 HQ
    have y0 := HO.out.c0; have y1 := HO.out.c1; have y2 := HO.out.c2; have y3 := HO.out.c3; have y4 := HO.out.c4
    obtain ⟨G1, hG1⟩ : ∃ G, W1.heap.size = G := ⟨_, rfl⟩
    have HQ := Lib.hid (join2_any W1 B G1 (G1 + 1) (Nat.le_trans HB0.out HO.out.b.size) hG1 rfl _ x (HX.out.below HO.out.b) o _ (HP.out.below HO.out.b) OKO.out HLL.out)
    go_wp2_with fail
    refine HQ.out.mono ?_
    rintro e' w2 ⟨⟨v2, rfl, hv2⟩, hb2⟩
    go_wp2_with fail
    go_ret
    exact ⟨⟨_, rfl, hv2⟩, bNext hb2 HO.out.b⟩
  | some n =>
    have hin := known_in hx hk
    obtain ⟨m, e0, hme⟩ : ∃ m e0, monadF o.fn n = (m, e0) := ⟨_, _, rfl⟩
    have hmi := monad_in (f := o.fn) hin
    rw [hme] at hmi
    have HM := Lib.hid (fun W => monad_at W o.fn n m e0 hin hme)
    have HKN := Lib.hid hk
    by_cases he : e0 = 0
    · subst he
      rw [monadC_some (m := m) h (by unfold oneC; rw [hk]; dsimp only; rw [hme]; rfl)]
      have HN := Lib.hid (fun W hL => numC_any W B hL m hmi)
      clear h hk hin hme hmi
      have HX := Lib.hid hx; have HP := Lib.hid hp; have OKO := Lib.hid ho; have HB0 := Lib.hid hB; have HLL := Lib.hid hl
      have HO := Lib.hid (OpBox.new w o (.slice pa o.p.length pc))
      have hm := hx.le
      unfold opV
      clear hx hp ho hB hl
      go_enter Try.func55, Try.ntmps55
      go_upto_region 1 with fail
      refine gen_worldA (fun W => OpBox w W w.heap.size o (.slice pa o.p.length pc)) HO.out ?_
      rintro W hO
      have x4 := hO.c4
      have HO := Lib.hid hO
      clear hO
      have hq := known_any W a c x (HX.out.below HO.out.b).els hm
      rw [HKN.out] at hq
      have HQ := Lib.hid hq
      clear hq
      go_wp2_with fail
      refine HQ.out.mono ?_
      rintro e W1 ⟨rfl, hb⟩
      have HO := Lib.hid (HO.out.next hb)
      have x4 := HO.out.c4
      have HQ2 := Lib.hid (HM.out W1)
      clear hb HQ HM
      go_wp2_with fail
      refine HQ2.out.mono ?_
      rintro e W2 ⟨rfl, nd, rfl⟩
      have HO := Lib.hid (HO.out.next (Below.drewN W1 nd))
      have HQ := Lib.hid (HN.out (W1.drewN nd) (Nat.le_trans (Bd.low HB0.out) HO.out.b.size))
      clear HQ2 HN x4
      go_wp2_with fail
      refine HQ.out.mono ?_
      rintro e w2 ⟨⟨v2, rfl, hv2⟩, hb2⟩
      go_wp2_with fail
      go_ret
      exact ⟨⟨_, rfl, hv2⟩, bNext hb2 HO.out.b⟩
    · rw [monadC_none h (by unfold oneC; rw [hk]; dsimp only; rw [hme]; exact if_neg he)]
      have he' : (e0 == 0) = false := by rw [beq_eq_false_iff_ne]; exact he
      clear h hk hin hme hmi he
      have HX := Lib.hid hx; have HP := Lib.hid hp; have OKO := Lib.hid ho; have HB0 := Lib.hid hB; have HLL := Lib.hid hl
      have HO := Lib.hid (OpBox.new w o (.slice pa o.p.length pc))
      have hm := hx.le
      unfold opV
      clear hx hp ho hB hl
      go_enter Try.func55, Try.ntmps55
      go_upto_region 1 with fail
      refine gen_worldA (fun W => OpBox w W w.heap.size o (.slice pa o.p.length pc)) HO.out ?_
      rintro W hO
      have x4 := hO.c4
      have HO := Lib.hid hO
      clear hO
      have hq := known_any W a c x (HX.out.below HO.out.b).els hm
      rw [HKN.out] at hq
      have HQ := Lib.hid hq
      clear hq
      go_wp2_with fail
      refine HQ.out.mono ?_
      rintro e W1 ⟨rfl, hb⟩
      have HO := Lib.hid (HO.out.next hb)
      have x4 := HO.out.c4
      have HQ2 := Lib.hid (HM.out W1)
      clear hb HQ HM
      go_wp2_with fail
      refine HQ2.out.mono ?_
      rintro e W2 ⟨rfl, nd, rfl⟩
      have HO := Lib.hid (HO.out.next (Below.drewN W1 nd))
      clear HQ2 x4
      obtain ⟨W3, hW3⟩ : ∃ W, W1.drewN nd = W := ⟨_, rfl⟩
      rw [hW3] at HO ⊢
      clear hW3
      have y0 := HO.out.c0; have y1 := HO.out.c1; have y2 := HO.out.c2; have y3 := HO.out.c3; have y4 := HO.out.c4
      obtain ⟨G1, hG1⟩ : ∃ G, W3.heap.size = G := ⟨_, rfl⟩
      have HQ := Lib.hid (join2_any W3 B G1 (G1 + 1) (Nat.le_trans HB0.out HO.out.b.size) hG1 rfl _ x (HX.out.below HO.out.b) o _ (HP.out.below HO.out.b) OKO.out HLL.out)
      go_wp2_with fail
      refine HQ.out.mono ?_
      rintro e' w2 ⟨⟨v2, rfl, hv2⟩, hb2⟩
      go_wp2_with fail
      go_ret
      exact ⟨⟨_, rfl, hv2⟩, bNext hb2 HO.out.b⟩
theorem monad13_any (w : World) (B : Bd) (hB : B ≤ w.heap.size) (a : Option Addr) (c : Nat) (x : List Cop) (hx : CopS B w (.slice a x.length c) x) (hl : x.length + 1 ≤ 2513169434843) (o : Cop) (pa : Option Addr) (pc : Nat) (hp : MonS B w (.slice pa o.p.length pc) o.p) (ho : OkO o) :
    Calls Try.prog 55 #[.slice a x.length c, opV o pa pc] w (RetC B w (monadC x o)) := by
  by_cases h : o.fn = 1 ∨ o.fn = 6 ∨ o.fn = 7
  · exact monad13_x w B hB a c x hx hl o pa pc hp ho h
  · exact monad13_y w B hB a c x hx hl o pa pc hp ho h
end Go.Proofs.Ytmlfeocdcjhhaaa

namespace Go.Proofs.Ytmlfeocdcjhhaaa
set_option maxRecDepth 100000
open Go.RowKit
set_option linter.unusedVariables false
set_option linter.unusedSimpArgs false
attribute [local go_sem ↓] Go.wp_at_zero Go.wp_at_succ

/-! simp.dyad. -/
theorem dyadC_num {x y : List Cop} {o : Cop} {n : Int} (h : twoC o.fn x y = some n) : dyadC x y o = [numC n] := by unfold dyadC; rw [h]
theorem dyadC_y {x y : List Cop} {o : Cop} (h : twoC o.fn x y = none) (h1 : ruleY o.fn x = true) : dyadC x y o = y := by unfold dyadC; rw [h]; dsimp only; rw [if_pos h1]
theorem dyadC_x {x y : List Cop} {o : Cop} (h : twoC o.fn x y = none) (h1 : ruleY o.fn x = false) (h2 : ruleX o.fn y = true) : dyadC x y o = x := by unfold dyadC; rw [h]; dsimp only; rw [if_neg (by rw [h1]; decide), if_pos h2]
theorem dyadC_z {x y : List Cop} {o : Cop} (h : twoC o.fn x y = none) (h1 : ruleY o.fn x = false) (h2 : ruleX o.fn y = false) (h3 : ruleZ o.fn x y = true) : dyadC x y o = [numC 0] := by
  unfold dyadC; rw [h]; dsimp only; rw [if_neg (by rw [h1]; decide), if_neg (by rw [h2]; decide), if_pos h3]
theorem dyadC_j {x y : List Cop} {o : Cop} (h : twoC o.fn x y = none) (h1 : ruleY o.fn x = false) (h2 : ruleX o.fn y = false) (h3 : ruleZ o.fn x y = false) : dyadC x y o = x ++ y ++ [o] := by
  unfold dyadC; rw [h]; dsimp only; rw [if_neg (by rw [h1]; decide), if_neg (by rw [h2]; decide), if_neg (by rw [h3]; decide)]
/-- the rules, function by function -/
theorem rules_other {f : Int} {x y : List Cop} (h1 : f ≠ 1) (h2 : f ≠ 2) (h3 : f ≠ 3) (h4 : f ≠ 4) (h5 : f ≠ 17) : ruleY f x = false ∧ ruleX f y = false ∧ ruleZ f x y = false := by
  unfold ruleY ruleX ruleZ
  rw [beq_eq_false_iff_ne.2 h1, beq_eq_false_iff_ne.2 h2, beq_eq_false_iff_ne.2 h3, beq_eq_false_iff_ne.2 h4, beq_eq_false_iff_ne.2 h5]
  exact ⟨rfl, rfl, rfl⟩

set_option maxHeartbeats 4000000 in
theorem dyad13_num (w : World) (B : Bd) (hB : B ≤ w.heap.size) (a a2 : Option Addr) (c c2 : Nat) (x y : List Cop) (hx : CopS B w (.slice a x.length c) x) (hy : CopS B w (.slice a2 y.length c2) y) (hl : x.length + y.length + 1 ≤ 2513169434843) (o : Cop) (pa : Option Addr) (pc : Nat) (hp : MonS B w (.slice pa o.p.length pc) o.p) (ho : OkO o) (p q m : Int) (hkx : knownC x = some p) (hky : knownC y = some q) (hd : dyadF o.fn p q = (m, 0)) :
    Calls Try.prog 56 #[.slice a x.length c, .slice a2 y.length c2, opV o pa pc] w (RetC B w (dyadC x y o)) := by
  have h2 : twoC o.fn x y = some m := by unfold twoC; rw [hkx, hky]; dsimp only; rw [hd]; rfl
  rw [dyadC_num h2]
  have hpi := known_in hx hkx; have hqi := known_in hy hky
  have hmi := dyad_in (f := o.fn) hpi hqi
  rw [hd] at hmi
  have HM := Lib.hid (fun W => dyad_at W o.fn p q m 0 hpi hqi hd); have HN := Lib.hid (fun W hL => numC_any W B hL m hmi); have HKX := Lib.hid hkx; have HKY := Lib.hid hky
  clear h2 hpi hqi hmi hd hkx hky
  have HX := Lib.hid hx; have HY := Lib.hid hy; have HP := Lib.hid hp; have OKO := Lib.hid ho; have HB0 := Lib.hid hB; have HLL := Lib.hid hl
  have HO := Lib.hid (OpBox.new w o (.slice pa o.p.length pc))
  have hmx := hx.le; have hmy := hy.le
  unfold opV
  clear hx hy hp ho hB hl
  go_enter Try.func56, Try.ntmps56
  go_upto_region 1 with fail
  refine gen_worldA (fun W => OpBox w W w.heap.size o (.slice pa o.p.length pc)) HO.out ?_
  rintro W hO
  have HO := Lib.hid hO
  clear hO
  have HQ := Lib.hid (known_any W a c x (HX.out.below HO.out.b).els hmx)
  rw [HKX.out] at HQ
  go_wp2_with fail
  refine HQ.out.mono ?_
  rintro e W1 ⟨rfl, hb⟩
  have HO := Lib.hid (HO.out.next hb)
  clear hb HQ
  have HQ := Lib.hid (known_any W1 a2 c2 y (HY.out.below HO.out.b).els hmy)
  rw [HKY.out] at HQ
  go_wp2_with fail
  refine HQ.out.mono ?_
  rintro e W2 ⟨rfl, hb⟩
  have HO := Lib.hid (HO.out.next hb)
  clear hb HQ
  have x4 := HO.out.c4
  have HQ := Lib.hid (HM.out W2)
  go_wp2_with fail
  refine HQ.out.mono ?_
  rintro e W3 ⟨rfl, nd, rfl⟩
  have HO := Lib.hid (HO.out.next (Below.drewN W2 nd))
  clear HQ HM x4
  have HQ := Lib.hid (HN.out (W2.drewN nd) (Nat.le_trans (Bd.low HB0.out) HO.out.b.size))
  go_wp2_with fail
  refine HQ.out.mono ?_
  rintro e w2 ⟨⟨v2, rfl, hv2⟩, hb2⟩
  go_wp2_with fail
  go_ret
  exact ⟨⟨_, rfl, hv2⟩, bNext hb2 HO.out.b⟩
set_option maxHeartbeats 4000000 in
theorem dyad13_1y (w : World) (B : Bd) (hB : B ≤ w.heap.size) (a a2 : Option Addr) (c c2 : Nat) (x y : List Cop) (hx : CopS B w (.slice a x.length c) x) (hy : CopS B w (.slice a2 y.length c2) y) (hl : x.length + y.length + 1 ≤ 2513169434843) (o : Cop) (pa : Option Addr) (pc : Nat) (hp : MonS B w (.slice pa o.p.length pc) o.p) (ho : OkO o) (hf : o.fn = 1) (g1 : onlyC x 0 = true) (h2 : twoC o.fn x y = none) :
    Calls Try.prog 56 #[.slice a x.length c, .slice a2 y.length c2, opV o pa pc] w (RetC B w (dyadC x y o)) := by
  rw [dyadC_y h2 (by unfold ruleY; rw [hf]; simp [*])]
  have H2 := Lib.hid h2
  have HF := Lib.hid hf
  clear h2 hf
  obtain ⟨k1, hk1⟩ : ∃ k, knownC x = k := ⟨_, rfl⟩
  obtain ⟨k2, hk2⟩ : ∃ k, knownC y = k := ⟨_, rfl⟩
  have HKX := Lib.hid hk1; have HKY := Lib.hid hk2
  have hi1 := fun n (h : k1 = some n) => known_in hx (hk1.trans h); have hi2 := fun n (h : k2 = some n) => known_in hy (hk2.trans h)
  have HI1 := Lib.hid hi1; have HI2 := Lib.hid hi2
  clear hi1 hi2 hk1 hk2
  have HX := Lib.hid hx; have HY := Lib.hid hy; have HP := Lib.hid hp; have OKO := Lib.hid ho; have HB0 := Lib.hid hB; have HLL := Lib.hid hl
  have HO := Lib.hid (OpBox.new w o (.slice pa o.p.length pc))
  have hmx := hx.le; have hmy := hy.le
  unfold opV
  clear hx hy hp ho hB hl
  go_enter Try.func56, Try.ntmps56
  go_upto_region 1 with fail
  refine gen_worldA (fun W => OpBox w W w.heap.size o (.slice pa o.p.length pc)) HO.out ?_
  rintro W hO
  have HO := Lib.hid hO
  clear hO
  have HQ := Lib.hid (known_any W a c x (HX.out.below HO.out.b).els hmx)
  rw [HKX.out] at HQ
  go_wp2_with fail
  refine HQ.out.mono ?_
  rintro e W1 ⟨rfl, hb⟩
  have HO := Lib.hid (HO.out.next hb)
  clear hb HQ
  have HQ := Lib.hid (known_any W1 a2 c2 y (HY.out.below HO.out.b).els hmy)
  rw [HKY.out] at HQ
  go_wp2_with fail
  refine HQ.out.mono ?_
  rintro e W2 ⟨rfl, hb⟩
  have HO := Lib.hid (HO.out.next hb)
  clear hb HQ
  go_upto_region 3 with fail
  go_cut [27] (fun s27 wx => s27 = .bool (k1.isSome && k2.isSome) ∧ W2 = wx)
  case first =>
    cases k1 with
    | none => (go_wp2_with fail); (go_meet); (exact ⟨rfl, rfl⟩)
    | some p => (cases k2 with | none => (go_wp2_with fail); (go_meet); (exact ⟨rfl, rfl⟩) | some q => (go_wp2_with fail); (go_meet); (exact ⟨rfl, rfl⟩))
  case rest =>
  obtain ⟨rfl, rfl⟩ := hcut
  obtain ⟨bb, hbb⟩ : ∃ bb, (k1.isSome && k2.isSome) = bb := ⟨_, rfl⟩
  rw [hbb]
  have HBB := Lib.hid hbb
  clear hbb
  go_upto_if 27 with fail
  go_cut [11, 12] (fun s11 s12 wx => OpBox w wx w.heap.size o (.slice pa o.p.length pc))
  case first =>
    cases bb with
    | false => (go_wp2_with fail); (go_meet); (exact HO.out)
    | true =>
      have hbb := HBB.out
      cases k1 with
      | none => cases hbb
      | some p =>
       cases k2 with
       | none => cases hbb
       | some q =>
        clear hbb
        obtain ⟨m, e0, hd⟩ : ∃ m e0, dyadF o.fn p q = (m, e0) := ⟨_, _, rfl⟩
        have he : (e0 == 0) = false := by
          have h2 := H2.out
          unfold twoC at h2
          rw [HKX.out, HKY.out] at h2
          dsimp only at h2
          rw [hd] at h2
          rw [beq_eq_false_iff_ne]
          intro h
          rw [if_pos h] at h2
          cases h2
        have HQ := Lib.hid (dyad_at W2 o.fn p q m e0 (HI1.out p rfl) (HI2.out q rfl) hd)
        have x4 := HO.out.c4
        clear hd
        go_wp2_with fail
        refine HQ.out.mono ?_
        rintro e W3 ⟨rfl, nd, rfl⟩
        have HO := Lib.hid (HO.out.next (Below.drewN W2 nd))
        clear HQ x4
        go_wp2_with fail
        go_meet
        exact HO.out
  case rest =>
    clear HO
    have HO := Lib.hid hcut
    clear hcut
    have x4 := HO.out.c4
    rw [HF.out] at x4
    have HG1 := Lib.hid g1
    clear g1
    have hq := only_any wc a c x 0 (HX.out.below HO.out.b).els hmx
    rw [HG1.out] at hq
    have HQ := Lib.hid hq
    clear hq
    go_wp2_with fail
    refine HQ.out.mono ?_
    rintro e U1 ⟨rfl, hb⟩
    have HO := Lib.hid (HO.out.next hb)
    clear hb HQ
    go_wp2_with fail
    go_ret
    exact ⟨⟨_, rfl, HY.out.below HO.out.b⟩, HO.out.b⟩
set_option maxHeartbeats 4000000 in
theorem dyad13_1x (w : World) (B : Bd) (hB : B ≤ w.heap.size) (a a2 : Option Addr) (c c2 : Nat) (x y : List Cop) (hx : CopS B w (.slice a x.length c) x) (hy : CopS B w (.slice a2 y.length c2) y) (hl : x.length + y.length + 1 ≤ 2513169434843) (o : Cop) (pa : Option Addr) (pc : Nat) (hp : MonS B w (.slice pa o.p.length pc) o.p) (ho : OkO o) (hf : o.fn = 1) (g1 : onlyC x 0 = false) (g2 : onlyC y 0 = true) (h2 : twoC o.fn x y = none) :
    Calls Try.prog 56 #[.slice a x.length c, .slice a2 y.length c2, opV o pa pc] w (RetC B w (dyadC x y o)) := by
  rw [dyadC_x h2 (by unfold ruleY; rw [hf]; simp [*]) (by unfold ruleX; rw [hf]; simp [*])]
  have H2 := Lib.hid h2
  have HF := Lib.hid hf
  clear h2 hf
  obtain ⟨k1, hk1⟩ : ∃ k, knownC x = k := ⟨_, rfl⟩
  obtain ⟨k2, hk2⟩ : ∃ k, knownC y = k := ⟨_, rfl⟩
  have HKX := Lib.hid hk1; have HKY := Lib.hid hk2
  have hi1 := fun n (h : k1 = some n) => known_in hx (hk1.trans h); have hi2 := fun n (h : k2 = some n) => known_in hy (hk2.trans h)
  have HI1 := Lib.hid hi1; have HI2 := Lib.hid hi2
  clear hi1 hi2 hk1 hk2
  have HX := Lib.hid hx; have HY := Lib.hid hy; have HP := Lib.hid hp; have OKO := Lib.hid ho; have HB0 := Lib.hid hB; have HLL := Lib.hid hl
  have HO := Lib.hid (OpBox.new w o (.slice pa o.p.length pc))
  have hmx := hx.le; have hmy := hy.le
  unfold opV
  clear hx hy hp ho hB hl
  go_enter Try.func56, Try.ntmps56
  go_upto_region 1 with fail
  refine gen_worldA (fun W => OpBox w W w.heap.size o (.slice pa o.p.length pc)) HO.out ?_
  rintro W hO
  have HO := Lib.hid hO
  clear hO
  have HQ := Lib.hid (known_any W a c x (HX.out.below HO.out.b).els hmx)
  rw [HKX.out] at HQ
  go_wp2_with fail
  refine HQ.out.mono ?_
  rintro e W1 ⟨rfl, hb⟩
  have HO := Lib.hid (HO.out.next hb)
  clear hb HQ
  have HQ := Lib.hid (known_any W1 a2 c2 y (HY.out.below HO.out.b).els hmy)
  rw [HKY.out] at HQ
  go_wp2_with fail
  refine HQ.out.mono ?_
  rintro e W2 ⟨rfl, hb⟩
  have HO := Lib.hid (HO.out.next hb)
  clear hb HQ
  go_upto_region 3 with fail
  go_cut [27] (fun s27 wx => s27 = .bool (k1.isSome && k2.isSome) ∧ W2 = wx)
  case first =>
    cases k1 with
    | none => (go_wp2_with fail); (go_meet); (exact ⟨rfl, rfl⟩)
    | some p => (cases k2 with | none => (go_wp2_with fail); (go_meet); (exact ⟨rfl, rfl⟩) | some q => (go_wp2_with fail); (go_meet); (exact ⟨rfl, rfl⟩))
  case rest =>
  obtain ⟨rfl, rfl⟩ := hcut
  obtain ⟨bb, hbb⟩ : ∃ bb, (k1.isSome && k2.isSome) = bb := ⟨_, rfl⟩
  rw [hbb]
  have HBB := Lib.hid hbb
  clear hbb
  go_upto_if 27 with fail
  go_cut [11, 12] (fun s11 s12 wx => OpBox w wx w.heap.size o (.slice pa o.p.length pc))
  case first =>
    cases bb with
    | false => (go_wp2_with fail); (go_meet); (exact HO.out)
    | true =>
      have hbb := HBB.out
      cases k1 with
      | none => cases hbb
      | some p =>
       cases k2 with
       | none => cases hbb
       | some q =>
        clear hbb
        obtain ⟨m, e0, hd⟩ : ∃ m e0, dyadF o.fn p q = (m, e0) := ⟨_, _, rfl⟩
        have he : (e0 == 0) = false := by
          have h2 := H2.out
          unfold twoC at h2
          rw [HKX.out, HKY.out] at h2
          dsimp only at h2
          rw [hd] at h2
          rw [beq_eq_false_iff_ne]
          intro h
          rw [if_pos h] at h2
          cases h2
        have HQ := Lib.hid (dyad_at W2 o.fn p q m e0 (HI1.out p rfl) (HI2.out q rfl) hd)
        have x4 := HO.out.c4
        clear hd
        go_wp2_with fail
        refine HQ.out.mono ?_
        rintro e W3 ⟨rfl, nd, rfl⟩
        have HO := Lib.hid (HO.out.next (Below.drewN W2 nd))
        clear HQ x4
        go_wp2_with fail
        go_meet
        exact HO.out
  case rest =>
    clear HO
    have HO := Lib.hid hcut
    clear hcut
    have x4 := HO.out.c4
    rw [HF.out] at x4
    have HG1 := Lib.hid g1; have HG2 := Lib.hid g2
    clear g1 g2
    have hq := only_any wc a c x 0 (HX.out.below HO.out.b).els hmx
    rw [HG1.out] at hq
    have HQ := Lib.hid hq
    clear hq
    go_wp2_with fail
    refine HQ.out.mono ?_
    rintro e U1 ⟨rfl, hb⟩
    have HO := Lib.hid (HO.out.next hb)
    clear hb HQ
    have hq := only_any U1 a2 c2 y 0 (HY.out.below HO.out.b).els hmy
    rw [HG2.out] at hq
    have HQ := Lib.hid hq
    clear hq
    go_wp2_with fail
    refine HQ.out.mono ?_
    rintro e U2 ⟨rfl, hb⟩
    have HO := Lib.hid (HO.out.next hb)
    clear hb HQ
    go_wp2_with fail
    go_ret
    exact ⟨⟨_, rfl, HX.out.below HO.out.b⟩, HO.out.b⟩
set_option maxHeartbeats 4000000 in
theorem dyad13_1j (w : World) (B : Bd) (hB : B ≤ w.heap.size) (a a2 : Option Addr) (c c2 : Nat) (x y : List Cop) (hx : CopS B w (.slice a x.length c) x) (hy : CopS B w (.slice a2 y.length c2) y) (hl : x.length + y.length + 1 ≤ 2513169434843) (o : Cop) (pa : Option Addr) (pc : Nat) (hp : MonS B w (.slice pa o.p.length pc) o.p) (ho : OkO o) (hf : o.fn = 1) (g1 : onlyC x 0 = false) (g2 : onlyC y 0 = false) (h2 : twoC o.fn x y = none) :
    Calls Try.prog 56 #[.slice a x.length c, .slice a2 y.length c2, opV o pa pc] w (RetC B w (dyadC x y o)) := by
  rw [dyadC_j h2 (by unfold ruleY; rw [hf]; simp [*]) (by unfold ruleX; rw [hf]; simp [*]) (by unfold ruleZ; rw [hf]; simp [*])]
  have H2 := Lib.hid h2
  have HF := Lib.hid hf
  clear h2 hf
  obtain ⟨k1, hk1⟩ : ∃ k, knownC x = k := ⟨_, rfl⟩
  obtain ⟨k2, hk2⟩ : ∃ k, knownC y = k := ⟨_, rfl⟩
  have HKX := Lib.hid hk1; have HKY := Lib.hid hk2
  have hi1 := fun n (h : k1 = some n) => known_in hx (hk1.trans h); have hi2 := fun n (h : k2 = some n) => known_in hy (hk2.trans h)
  have HI1 := Lib.hid hi1; have HI2 := Lib.hid hi2
  clear hi1 hi2 hk1 hk2
  have HX := Lib.hid hx; have HY := Lib.hid hy; have HP := Lib.hid hp; have OKO := Lib.hid ho; have HB0 := Lib.hid hB; have HLL := Lib.hid hl
  have HO := Lib.hid (OpBox.new w o (.slice pa o.p.length pc))
  have hmx := hx.le; have hmy := hy.le
  unfold opV
  clear hx hy hp ho hB hl
  go_enter Try.func56, Try.ntmps56
  go_upto_region 1 with fail
  refine gen_worldA (fun W => OpBox w W w.heap.size o (.slice pa o.p.length pc)) HO.out ?_
  rintro W hO
  have HO := Lib.hid hO
  clear hO
  have HQ := Lib.hid (known_any W a c x (HX.out.below HO.out.b).els hmx)
  rw [HKX.out] at HQ
  go_wp2_with fail
  refine HQ.out.mono ?_
  rintro e W1 ⟨rfl, hb⟩
  have HO := Lib.hid (HO.out.next hb)
  clear hb HQ
  have HQ := Lib.hid (known_any W1 a2 c2 y (HY.out.below HO.out.b).els hmy)
  rw [HKY.out] at HQ
  go_wp2_with fail
  refine HQ.out.mono ?_
  rintro e W2 ⟨rfl, hb⟩
  have HO := Lib.hid (HO.out.next hb)
  clear hb HQ
  go_upto_region 3 with fail
  go_cut [27] (fun s27 wx => s27 = .bool (k1.isSome && k2.isSome) ∧ W2 = wx)
  case first =>
    cases k1 with
    | none => (go_wp2_with fail); (go_meet); (exact ⟨rfl, rfl⟩)
    | some p => (cases k2 with | none => (go_wp2_with fail); (go_meet); (exact ⟨rfl, rfl⟩) | some q => (go_wp2_with fail); (go_meet); (exact ⟨rfl, rfl⟩))
  case rest =>
  obtain ⟨rfl, rfl⟩ := hcut
  obtain ⟨bb, hbb⟩ : ∃ bb, (k1.isSome && k2.isSome) = bb := ⟨_, rfl⟩
  rw [hbb]
  have HBB := Lib.hid hbb
  clear hbb
  go_upto_if 27 with fail
  go_cut [11, 12] (fun s11 s12 wx => OpBox w wx w.heap.size o (.slice pa o.p.length pc))
  case first =>
    cases bb with
    | false => (go_wp2_with fail); (go_meet); (exact HO.out)
    | true =>
      have hbb := HBB.out
      cases k1 with
      | none => cases hbb
      | some p =>
       cases k2 with
       | none => cases hbb
       | some q =>
        clear hbb
        obtain ⟨m, e0, hd⟩ : ∃ m e0, dyadF o.fn p q = (m, e0) := ⟨_, _, rfl⟩
        have he : (e0 == 0) = false := by
          have h2 := H2.out
          unfold twoC at h2
          rw [HKX.out, HKY.out] at h2
          dsimp only at h2
          rw [hd] at h2
          rw [beq_eq_false_iff_ne]
          intro h
          rw [if_pos h] at h2
          cases h2
        have HQ := Lib.hid (dyad_at W2 o.fn p q m e0 (HI1.out p rfl) (HI2.out q rfl) hd)
        have x4 := HO.out.c4
        clear hd
        go_wp2_with fail
        refine HQ.out.mono ?_
        rintro e W3 ⟨rfl, nd, rfl⟩
        have HO := Lib.hid (HO.out.next (Below.drewN W2 nd))
        clear HQ x4
        go_wp2_with fail
        go_meet
        exact HO.out
  case rest =>
    clear HO
    have HO := Lib.hid hcut
    clear hcut
    have x4 := HO.out.c4
    rw [HF.out] at x4
    have HG1 := Lib.hid g1; have HG2 := Lib.hid g2
    clear g1 g2
    have hq := only_any wc a c x 0 (HX.out.below HO.out.b).els hmx
    rw [HG1.out] at hq
    have HQ := Lib.hid hq
    clear hq
    go_wp2_with fail
    refine HQ.out.mono ?_
    rintro e U1 ⟨rfl, hb⟩
    have HO := Lib.hid (HO.out.next hb)
    clear hb HQ
    have hq := only_any U1 a2 c2 y 0 (HY.out.below HO.out.b).els hmy
    rw [HG2.out] at hq
    have HQ := Lib.hid hq
    clear hq
    go_wp2_with fail
    refine HQ.out.mono ?_
    rintro e U2 ⟨rfl, hb⟩
    have HO := Lib.hid (HO.out.next hb)
    clear hb HQ
    have y0 := HO.out.c0; have y1 := HO.out.c1; have y2 := HO.out.c2; have y3 := HO.out.c3; have y4 := HO.out.c4
    obtain ⟨G1, hG1⟩ : ∃ G, U2.heap.size = G := ⟨_, rfl⟩
    have HQ := Lib.hid (join3_any U2 B G1 (G1 + 1) (Nat.le_trans HB0.out HO.out.b.size) hG1 rfl _ _ x y (HX.out.below HO.out.b) (HY.out.below HO.out.b) o _ (HP.out.below HO.out.b) OKO.out HLL.out)
    skip
    go_wp2_with fail
    refine HQ.out.mono ?_
    rintro e' w2 ⟨⟨v2, rfl, hv2⟩, hb2⟩
    go_wp2_with fail
    go_ret
    exact ⟨⟨_, rfl, hv2⟩, bNext hb2 HO.out.b⟩
set_option maxHeartbeats 4000000 in
theorem dyad13_2x (w : World) (B : Bd) (hB : B ≤ w.heap.size) (a a2 : Option Addr) (c c2 : Nat) (x y : List Cop) (hx : CopS B w (.slice a x.length c) x) (hy : CopS B w (.slice a2 y.length c2) y) (hl : x.length + y.length + 1 ≤ 2513169434843) (o : Cop) (pa : Option Addr) (pc : Nat) (hp : MonS B w (.slice pa o.p.length pc) o.p) (ho : OkO o) (hf : o.fn = 2) (g2 : onlyC y 0 = true) (h2 : twoC o.fn x y = none) :
    Calls Try.prog 56 #[.slice a x.length c, .slice a2 y.length c2, opV o pa pc] w (RetC B w (dyadC x y o)) := by
  rw [dyadC_x h2 (by unfold ruleY; rw [hf]; simp [*]) (by unfold ruleX; rw [hf]; simp [*])]
  have H2 := Lib.hid h2
  have HF := Lib.hid hf
  clear h2 hf
  obtain ⟨k1, hk1⟩ : ∃ k, knownC x = k := ⟨_, rfl⟩
  obtain ⟨k2, hk2⟩ : ∃ k, knownC y = k := ⟨_, rfl⟩
  have HKX := Lib.hid hk1; have HKY := Lib.hid hk2
  have hi1 := fun n (h : k1 = some n) => known_in hx (hk1.trans h); have hi2 := fun n (h : k2 = some n) => known_in hy (hk2.trans h)
  have HI1 := Lib.hid hi1; have HI2 := Lib.hid hi2
  clear hi1 hi2 hk1 hk2
  have HX := Lib.hid hx; have HY := Lib.hid hy; have HP := Lib.hid hp; have OKO := Lib.hid ho; have HB0 := Lib.hid hB; have HLL := Lib.hid hl
  have HO := Lib.hid (OpBox.new w o (.slice pa o.p.length pc))
  have hmx := hx.le; have hmy := hy.le
  unfold opV
  clear hx hy hp ho hB hl
  go_enter Try.func56, Try.ntmps56
  go_upto_region 1 with fail
  refine gen_worldA (fun W => OpBox w W w.heap.size o (.slice pa o.p.length pc)) HO.out ?_
  rintro W hO
  have HO := Lib.hid hO
  clear hO
  have HQ := Lib.hid (known_any W a c x (HX.out.below HO.out.b).els hmx)
  rw [HKX.out] at HQ
  go_wp2_with fail
  refine HQ.out.mono ?_
  rintro e W1 ⟨rfl, hb⟩
  have HO := Lib.hid (HO.out.next hb)
  clear hb HQ
  have HQ := Lib.hid (known_any W1 a2 c2 y (HY.out.below HO.out.b).els hmy)
  rw [HKY.out] at HQ
  go_wp2_with fail
  refine HQ.out.mono ?_
  rintro e W2 ⟨rfl, hb⟩
  have HO := Lib.hid (HO.out.next hb)
  clear hb HQ
  go_upto_region 3 with fail
  go_cut [27] (fun s27 wx => s27 = .bool (k1.isSome && k2.isSome) ∧ W2 = wx)
  case first =>
    cases k1 with
    | none => (go_wp2_with fail); (go_meet); (exact ⟨rfl, rfl⟩)
    | some p => (cases k2 with | none => (go_wp2_with fail); (go_meet); (exact ⟨rfl, rfl⟩) | some q => (go_wp2_with fail); (go_meet); (exact ⟨rfl, rfl⟩))
  case rest =>
  obtain ⟨rfl, rfl⟩ := hcut
  obtain ⟨bb, hbb⟩ : ∃ bb, (k1.isSome && k2.isSome) = bb := ⟨_, rfl⟩
  rw [hbb]
  have HBB := Lib.hid hbb
  clear hbb
  go_upto_if 27 with fail
  go_cut [11, 12] (fun s11 s12 wx => OpBox w wx w.heap.size o (.slice pa o.p.length pc))
  case first =>
    cases bb with
    | false => (go_wp2_with fail); (go_meet); (exact HO.out)
    | true =>
      have hbb := HBB.out
      cases k1 with
      | none => cases hbb
      | some p =>
       cases k2 with
       | none => cases hbb
       | some q =>
        clear hbb
        obtain ⟨m, e0, hd⟩ : ∃ m e0, dyadF o.fn p q = (m, e0) := ⟨_, _, rfl⟩
        have he : (e0 == 0) = false := by
          have h2 := H2.out
          unfold twoC at h2
          rw [HKX.out, HKY.out] at h2
          dsimp only at h2
          rw [hd] at h2
          rw [beq_eq_false_iff_ne]
          intro h
          rw [if_pos h] at h2
          cases h2
        have HQ := Lib.hid (dyad_at W2 o.fn p q m e0 (HI1.out p rfl) (HI2.out q rfl) hd)
        have x4 := HO.out.c4
        clear hd
        go_wp2_with fail
        refine HQ.out.mono ?_
        rintro e W3 ⟨rfl, nd, rfl⟩
        have HO := Lib.hid (HO.out.next (Below.drewN W2 nd))
        clear HQ x4
        go_wp2_with fail
        go_meet
        exact HO.out
  case rest =>
    clear HO
    have HO := Lib.hid hcut
    clear hcut
    have x4 := HO.out.c4
    rw [HF.out] at x4
    have HG2 := Lib.hid g2
    clear g2
    have hq := only_any wc a2 c2 y 0 (HY.out.below HO.out.b).els hmy
    rw [HG2.out] at hq
    have HQ := Lib.hid hq
    clear hq
    go_wp2_with fail
    refine HQ.out.mono ?_
    rintro e U2 ⟨rfl, hb⟩
    have HO := Lib.hid (HO.out.next hb)
    clear hb HQ
    go_wp2_with fail
    go_ret
    exact ⟨⟨_, rfl, HX.out.below HO.out.b⟩, HO.out.b⟩
set_option maxHeartbeats 4000000 in
theorem dyad13_2j (w : World) (B : Bd) (hB : B ≤ w.heap.size) (a a2 : Option Addr) (c c2 : Nat) (x y : List Cop) (hx : CopS B w (.slice a x.length c) x) (hy : CopS B w (.slice a2 y.length c2) y) (hl : x.length + y.length + 1 ≤ 2513169434843) (o : Cop) (pa : Option Addr) (pc : Nat) (hp : MonS B w (.slice pa o.p.length pc) o.p) (ho : OkO o) (hf : o.fn = 2) (g2 : onlyC y 0 = false) (h2 : twoC o.fn x y = none) :
    Calls Try.prog 56 #[.slice a x.length c, .slice a2 y.length c2, opV o pa pc] w (RetC B w (dyadC x y o)) := by
  rw [dyadC_j h2 (by unfold ruleY; rw [hf]; simp [*]) (by unfold ruleX; rw [hf]; simp [*]) (by unfold ruleZ; rw [hf]; simp [*])]
  have H2 := Lib.hid h2
  have HF := Lib.hid hf
  clear h2 hf
  obtain ⟨k1, hk1⟩ : ∃ k, knownC x = k := ⟨_, rfl⟩
  obtain ⟨k2, hk2⟩ : ∃ k, knownC y = k := ⟨_, rfl⟩
  have HKX := Lib.hid hk1; have HKY := Lib.hid hk2
  have hi1 := fun n (h : k1 = some n) => known_in hx (hk1.trans h); have hi2 := fun n (h : k2 = some n) => known_in hy (hk2.trans h)
  have HI1 := Lib.hid hi1; have HI2 := Lib.hid hi2
  clear hi1 hi2 hk1 hk2
  have HX := Lib.hid hx; have HY := Lib.hid hy; have HP := Lib.hid hp; have OKO := Lib.hid ho; have HB0 := Lib.hid hB; have HLL := Lib.hid hl
  have HO := Lib.hid (OpBox.new w o (.slice pa o.p.length pc))
  have hmx := hx.le; have hmy := hy.le
  unfold opV
  clear hx hy hp ho hB hl
  go_enter Try.func56, Try.ntmps56
  go_upto_region 1 with fail
  refine gen_worldA (fun W => OpBox w W w.heap.size o (.slice pa o.p.length pc)) HO.out ?_
  rintro W hO
  have HO := Lib.hid hO
  clear hO
  have HQ := Lib.hid (known_any W a c x (HX.out.below HO.out.b).els hmx)
  rw [HKX.out] at HQ
  go_wp2_with fail
  refine HQ.out.mono ?_
  rintro e W1 ⟨rfl, hb⟩
  have HO := Lib.hid (HO.out.next hb)
  clear hb HQ
  have HQ := Lib.hid (known_any W1 a2 c2 y (HY.out.below HO.out.b).els hmy)
  rw [HKY.out] at HQ
  go_wp2_with fail
  refine HQ.out.mono ?_
  rintro e W2 ⟨rfl, hb⟩
  have HO := Lib.hid (HO.out.next hb)
  clear hb HQ
  go_upto_region 3 with fail
  go_cut [27] (fun s27 wx => s27 = .bool (k1.isSome && k2.isSome) ∧ W2 = wx)
  case first =>
    cases k1 with
    | none => (go_wp2_with fail); (go_meet); (exact ⟨rfl, rfl⟩)
    | some p => (cases k2 with | none => (go_wp2_with fail); (go_meet); (exact ⟨rfl, rfl⟩) | some q => (go_wp2_with fail); (go_meet); (exact ⟨rfl, rfl⟩))
  case rest =>
  obtain ⟨rfl, rfl⟩ := hcut
  obtain ⟨bb, hbb⟩ : ∃ bb, (k1.isSome && k2.isSome) = bb := ⟨_, rfl⟩
  rw [hbb]
  have HBB := Lib.hid hbb
  clear hbb
  go_upto_if 27 with fail
  go_cut [11, 12] (fun s11 s12 wx => OpBox w wx w.heap.size o (.slice pa o.p.length pc))
  case first =>
    cases bb with
    | false => (go_wp2_with fail); (go_meet); (exact HO.out)
    | true =>
      have hbb := HBB.out
      cases k1 with
      | none => cases hbb
      | some p =>
       cases k2 with
       | none => cases hbb
       | some q =>
        clear hbb
        obtain ⟨m, e0, hd⟩ : ∃ m e0, dyadF o.fn p q = (m, e0) := ⟨_, _, rfl⟩
        have he : (e0 == 0) = false := by
          have h2 := H2.out
          unfold twoC at h2
          rw [HKX.out, HKY.out] at h2
          dsimp only at h2
          rw [hd] at h2
          rw [beq_eq_false_iff_ne]
          intro h
          rw [if_pos h] at h2
          cases h2
        have HQ := Lib.hid (dyad_at W2 o.fn p q m e0 (HI1.out p rfl) (HI2.out q rfl) hd)
        have x4 := HO.out.c4
        clear hd
        go_wp2_with fail
        refine HQ.out.mono ?_
        rintro e W3 ⟨rfl, nd, rfl⟩
        have HO := Lib.hid (HO.out.next (Below.drewN W2 nd))
        clear HQ x4
        go_wp2_with fail
        go_meet
        exact HO.out
  case rest =>
    clear HO
    have HO := Lib.hid hcut
    clear hcut
    have x4 := HO.out.c4
    rw [HF.out] at x4
    have HG2 := Lib.hid g2
    clear g2
    have hq := only_any wc a2 c2 y 0 (HY.out.below HO.out.b).els hmy
    rw [HG2.out] at hq
    have HQ := Lib.hid hq
    clear hq
    go_wp2_with fail
    refine HQ.out.mono ?_
    rintro e U2 ⟨rfl, hb⟩
    have HO := Lib.hid (HO.out.next hb)
    clear hb HQ
    have y0 := HO.out.c0; have y1 := HO.out.c1; have y2 := HO.out.c2; have y3 := HO.out.c3; have y4 := HO.out.c4
    obtain ⟨G1, hG1⟩ : ∃ G, U2.heap.size = G := ⟨_, rfl⟩
    have HQ := Lib.hid (join3_any U2 B G1 (G1 + 1) (Nat.le_trans HB0.out HO.out.b.size) hG1 rfl _ _ x y (HX.out.below HO.out.b) (HY.out.below HO.out.b) o _ (HP.out.below HO.out.b) OKO.out HLL.out)
    skip
    go_wp2_with fail
    refine HQ.out.mono ?_
    rintro e' w2 ⟨⟨v2, rfl, hv2⟩, hb2⟩
    go_wp2_with fail
    go_ret
    exact ⟨⟨_, rfl, hv2⟩, bNext hb2 HO.out.b⟩
set_option maxHeartbeats 4000000 in
theorem dyad13_4x (w : World) (B : Bd) (hB : B ≤ w.heap.size) (a a2 : Option Addr) (c c2 : Nat) (x y : List Cop) (hx : CopS B w (.slice a x.length c) x) (hy : CopS B w (.slice a2 y.length c2) y) (hl : x.length + y.length + 1 ≤ 2513169434843) (o : Cop) (pa : Option Addr) (pc : Nat) (hp : MonS B w (.slice pa o.p.length pc) o.p) (ho : OkO o) (hf : o.fn = 4) (g2 : onlyC y 1 = true) (h2 : twoC o.fn x y = none) :
    Calls Try.prog 56 #[.slice a x.length c, .slice a2 y.length c2, opV o pa pc] w (RetC B w (dyadC x y o)) := by
  rw [dyadC_x h2 (by unfold ruleY; rw [hf]; simp [*]) (by unfold ruleX; rw [hf]; simp [*])]
  have H2 := Lib.hid h2
  have HF := Lib.hid hf
  clear h2 hf
  obtain ⟨k1, hk1⟩ : ∃ k, knownC x = k := ⟨_, rfl⟩
  obtain ⟨k2, hk2⟩ : ∃ k, knownC y = k := ⟨_, rfl⟩
  have HKX := Lib.hid hk1; have HKY := Lib.hid hk2
  have hi1 := fun n (h : k1 = some n) => known_in hx (hk1.trans h); have hi2 := fun n (h : k2 = some n) => known_in hy (hk2.trans h)
  have HI1 := Lib.hid hi1; have HI2 := Lib.hid hi2
  clear hi1 hi2 hk1 hk2
  have HX := Lib.hid hx; have HY := Lib.hid hy; have HP := Lib.hid hp; have OKO := Lib.hid ho; have HB0 := Lib.hid hB; have HLL := Lib.hid hl
  have HO := Lib.hid (OpBox.new w o (.slice pa o.p.length pc))
  have hmx := hx.le; have hmy := hy.le
  unfold opV
  clear hx hy hp ho hB hl
  go_enter Try.func56, Try.ntmps56
  go_upto_region 1 with fail
  refine gen_worldA (fun W => OpBox w W w.heap.size o (.slice pa o.p.length pc)) HO.out ?_
  rintro W hO
  have HO := Lib.hid hO
  clear hO
  have HQ := Lib.hid (known_any W a c x (HX.out.below HO.out.b).els hmx)
  rw [HKX.out] at HQ
  go_wp2_with fail
  refine HQ.out.mono ?_
  rintro e W1 ⟨rfl, hb⟩
  have HO := Lib.hid (HO.out.next hb)
  clear hb HQ
  have HQ := Lib.hid (known_any W1 a2 c2 y (HY.out.below HO.out.b).els hmy)
  rw [HKY.out] at HQ
  go_wp2_with fail
  refine HQ.out.mono ?_
  rintro e W2 ⟨rfl, hb⟩
  have HO := Lib.hid (HO.out.next hb)
  clear hb HQ
  go_upto_region 3 with fail
  go_cut [27] (fun s27 wx => s27 = .bool (k1.isSome && k2.isSome) ∧ W2 = wx)
  case first =>
    cases k1 with
    | none => (go_wp2_with fail); (go_meet); (exact ⟨rfl, rfl⟩)
    | some p => (cases k2 with | none => (go_wp2_with fail); (go_meet); (exact ⟨rfl, rfl⟩) | some q => (go_wp2_with fail); (go_meet); (exact ⟨rfl, rfl⟩))
  case rest =>
  obtain ⟨rfl, rfl⟩ := hcut
  obtain ⟨bb, hbb⟩ : ∃ bb, (k1.isSome && k2.isSome) = bb := ⟨_, rfl⟩
  rw [hbb]
  have HBB := Lib.hid hbb
  clear hbb
  go_upto_if 27 with fail
  go_cut [11, 12] (fun s11 s12 wx => OpBox w wx w.heap.size o (.slice pa o.p.length pc))
  case first =>
    cases bb with
    | false => (go_wp2_with fail); (go_meet); (exact HO.out)
    | true =>
      have hbb := HBB.out
      cases k1 with
      | none => cases hbb
      | some p =>
       cases k2 with
       | none => cases hbb
       | some q =>
        clear hbb
        obtain ⟨m, e0, hd⟩ : ∃ m e0, dyadF o.fn p q = (m, e0) := ⟨_, _, rfl⟩
        have he : (e0 == 0) = false := by
          have h2 := H2.out
          unfold twoC at h2
          rw [HKX.out, HKY.out] at h2
          dsimp only at h2
          rw [hd] at h2
          rw [beq_eq_false_iff_ne]
          intro h
          rw [if_pos h] at h2
          cases h2
        have HQ := Lib.hid (dyad_at W2 o.fn p q m e0 (HI1.out p rfl) (HI2.out q rfl) hd)
        have x4 := HO.out.c4
        clear hd
        go_wp2_with fail
        refine HQ.out.mono ?_
        rintro e W3 ⟨rfl, nd, rfl⟩
        have HO := Lib.hid (HO.out.next (Below.drewN W2 nd))
        clear HQ x4
        go_wp2_with fail
        go_meet
        exact HO.out
  case rest =>
    clear HO
    have HO := Lib.hid hcut
    clear hcut
    have x4 := HO.out.c4
    rw [HF.out] at x4
    have HG2 := Lib.hid g2
    clear g2
    have hq := only_any wc a2 c2 y 1 (HY.out.below HO.out.b).els hmy
    rw [HG2.out] at hq
    have HQ := Lib.hid hq
    clear hq
    go_wp2_with fail
    refine HQ.out.mono ?_
    rintro e U2 ⟨rfl, hb⟩
    have HO := Lib.hid (HO.out.next hb)
    clear hb HQ
    go_wp2_with fail
    go_ret
    exact ⟨⟨_, rfl, HX.out.below HO.out.b⟩, HO.out.b⟩
set_option maxHeartbeats 4000000 in
theorem dyad13_4j (w : World) (B : Bd) (hB : B ≤ w.heap.size) (a a2 : Option Addr) (c c2 : Nat) (x y : List Cop) (hx : CopS B w (.slice a x.length c) x) (hy : CopS B w (.slice a2 y.length c2) y) (hl : x.length + y.length + 1 ≤ 2513169434843) (o : Cop) (pa : Option Addr) (pc : Nat) (hp : MonS B w (.slice pa o.p.length pc) o.p) (ho : OkO o) (hf : o.fn = 4) (g2 : onlyC y 1 = false) (h2 : twoC o.fn x y = none) :
    Calls Try.prog 56 #[.slice a x.length c, .slice a2 y.length c2, opV o pa pc] w (RetC B w (dyadC x y o)) := by
  rw [dyadC_j h2 (by unfold ruleY; rw [hf]; simp [*]) (by unfold ruleX; rw [hf]; simp [*]) (by unfold ruleZ; rw [hf]; simp [*])]
  have H2 := Lib.hid h2
  have HF := Lib.hid hf
  clear h2 hf
  obtain ⟨k1, hk1⟩ : ∃ k, knownC x = k := ⟨_, rfl⟩
  obtain ⟨k2, hk2⟩ : ∃ k, knownC y = k := ⟨_, rfl⟩
  have HKX := Lib.hid hk1; have HKY := Lib.hid hk2
  have hi1 := fun n (h : k1 = some n) => known_in hx (hk1.trans h); have hi2 := fun n (h : k2 = some n) => known_in hy (hk2.trans h)
  have HI1 := Lib.hid hi1; have HI2 := Lib.hid hi2
  clear hi1 hi2 hk1 hk2
  have HX := Lib.hid hx; have HY := Lib.hid hy; have HP := Lib.hid hp; have OKO := Lib.hid ho; have HB0 := Lib.hid hB; have HLL := Lib.hid hl
  have HO := Lib.hid (OpBox.new w o (.slice pa o.p.length pc))
  have hmx := hx.le; have hmy := hy.le
  unfold opV
  clear hx hy hp ho hB hl
  go_enter Try.func56, Try.ntmps56
  go_upto_region 1 with fail
  refine gen_worldA (fun W => OpBox w W w.heap.size o (.slice pa o.p.length pc)) HO.out ?_
  rintro W hO
  have HO := Lib.hid hO
  clear hO
  have HQ := Lib.hid (known_any W a c x (HX.out.below HO.out.b).els hmx)
  rw [HKX.out] at HQ
  go_wp2_with fail
  refine HQ.out.mono ?_
  rintro e W1 ⟨rfl, hb⟩
  have HO := Lib.hid (HO.out.next hb)
  clear hb HQ
  have HQ := Lib.hid (known_any W1 a2 c2 y (HY.out.below HO.out.b).els hmy)
  rw [HKY.out] at HQ
  go_wp2_with fail
  refine HQ.out.mono ?_
  rintro e W2 ⟨rfl, hb⟩
  have HO := Lib.hid (HO.out.next hb)
  clear hb HQ
  go_upto_region 3 with fail
  go_cut [27] (fun s27 wx => s27 = .bool (k1.isSome && k2.isSome) ∧ W2 = wx)
  case first =>
    cases k1 with
    | none => (go_wp2_with fail); (go_meet); (exact ⟨rfl, rfl⟩)
    | some p => (cases k2 with | none => (go_wp2_with fail); (go_meet); (exact ⟨rfl, rfl⟩) | some q => (go_wp2_with fail); (go_meet); (exact ⟨rfl, rfl⟩))
  case rest =>
  obtain ⟨rfl, rfl⟩ := hcut
  obtain ⟨bb, hbb⟩ : ∃ bb, (k1.isSome && k2.isSome) = bb := ⟨_, rfl⟩
  rw [hbb]
  have HBB := Lib.hid hbb
  clear hbb
  go_upto_if 27 with fail
  go_cut [11, 12] (fun s11 s12 wx => OpBox w wx w.heap.size o (.slice pa o.p.length pc))
  case first =>
    cases bb with
    | false => (go_wp2_with fail); (go_meet); (exact HO.out)
    | true =>
      have hbb := HBB.out
      cases k1 with
      | none => cases hbb
      | some p =>
       cases k2 with
       | none => cases hbb
       | some q =>
        clear hbb
        obtain ⟨m, e0, hd⟩ : ∃ m e0, dyadF o.fn p q = (m, e0) := ⟨_, _, rfl⟩
        have he : (e0 == 0) = false := by
          have h2 := H2.out
          unfold twoC at h2
          rw [HKX.out, HKY.out] at h2
          dsimp only at h2
          rw [hd] at h2
          rw [beq_eq_false_iff_ne]
          intro h
          rw [if_pos h] at h2
          cases h2
        have HQ := Lib.hid (dyad_at W2 o.fn p q m e0 (HI1.out p rfl) (HI2.out q rfl) hd)
        have x4 := HO.out.c4
        clear hd
        go_wp2_with fail
        refine HQ.out.mono ?_
        rintro e W3 ⟨rfl, nd, rfl⟩
        have HO := Lib.hid (HO.out.next (Below.drewN W2 nd))
        clear HQ x4
        go_wp2_with fail
        go_meet
        exact HO.out
  case rest =>
    clear HO
    have HO := Lib.hid hcut
    clear hcut
    have x4 := HO.out.c4
    rw [HF.out] at x4
    have HG2 := Lib.hid g2
    clear g2
    have hq := only_any wc a2 c2 y 1 (HY.out.below HO.out.b).els hmy
    rw [HG2.out] at hq
    have HQ := Lib.hid hq
    clear hq
    go_wp2_with fail
    refine HQ.out.mono ?_
    rintro e U2 ⟨rfl, hb⟩
    have HO := Lib.hid (HO.out.next hb)
    clear hb HQ
    have y0 := HO.out.c0; have y1 := HO.out.c1; have y2 := HO.out.c2; have y3 := HO.out.c3; have y4 := HO.out.c4
    obtain ⟨G1, hG1⟩ : ∃ G, U2.heap.size = G := ⟨_, rfl⟩
    have HQ := Lib.hid (join3_any U2 B G1 (G1 + 1) (Nat.le_trans HB0.out HO.out.b.size) hG1 rfl _ _ x y (HX.out.below HO.out.b) (HY.out.below HO.out.b) o _ (HP.out.below HO.out.b) OKO.out HLL.out)
    skip
    go_wp2_with fail
    refine HQ.out.mono ?_
    rintro e' w2 ⟨⟨v2, rfl, hv2⟩, hb2⟩
    go_wp2_with fail
    go_ret
    exact ⟨⟨_, rfl, hv2⟩, bNext hb2 HO.out.b⟩
set_option maxHeartbeats 4000000 in
theorem dyad13_17x (w : World) (B : Bd) (hB : B ≤ w.heap.size) (a a2 : Option Addr) (c c2 : Nat) (x y : List Cop) (hx : CopS B w (.slice a x.length c) x) (hy : CopS B w (.slice a2 y.length c2) y) (hl : x.length + y.length + 1 ≤ 2513169434843) (o : Cop) (pa : Option Addr) (pc : Nat) (hp : MonS B w (.slice pa o.p.length pc) o.p) (ho : OkO o) (hf : o.fn = 17) (g2 : onlyC y 1 = true) (h2 : twoC o.fn x y = none) :
    Calls Try.prog 56 #[.slice a x.length c, .slice a2 y.length c2, opV o pa pc] w (RetC B w (dyadC x y o)) := by
  rw [dyadC_x h2 (by unfold ruleY; rw [hf]; simp [*]) (by unfold ruleX; rw [hf]; simp [*])]
  have H2 := Lib.hid h2
  have HF := Lib.hid hf
  clear h2 hf
  obtain ⟨k1, hk1⟩ : ∃ k, knownC x = k := ⟨_, rfl⟩
  obtain ⟨k2, hk2⟩ : ∃ k, knownC y = k := ⟨_, rfl⟩
  have HKX := Lib.hid hk1; have HKY := Lib.hid hk2
  have hi1 := fun n (h : k1 = some n) => known_in hx (hk1.trans h); have hi2 := fun n (h : k2 = some n) => known_in hy (hk2.trans h)
  have HI1 := Lib.hid hi1; have HI2 := Lib.hid hi2
  clear hi1 hi2 hk1 hk2
  have HX := Lib.hid hx; have HY := Lib.hid hy; have HP := Lib.hid hp; have OKO := Lib.hid ho; have HB0 := Lib.hid hB; have HLL := Lib.hid hl
  have HO := Lib.hid (OpBox.new w o (.slice pa o.p.length pc))
  have hmx := hx.le; have hmy := hy.le
  unfold opV
  clear hx hy hp ho hB hl
  go_enter Try.func56, Try.ntmps56
  go_upto_region 1 with fail
  refine gen_worldA (fun W => OpBox w W w.heap.size o (.slice pa o.p.length pc)) HO.out ?_
  rintro W hO
  have HO := Lib.hid hO
  clear hO
  have HQ := Lib.hid (known_any W a c x (HX.out.below HO.out.b).els hmx)
  rw [HKX.out] at HQ
  go_wp2_with fail
  refine HQ.out.mono ?_
  rintro e W1 ⟨rfl, hb⟩
  have HO := Lib.hid (HO.out.next hb)
  clear hb HQ
  have HQ := Lib.hid (known_any W1 a2 c2 y (HY.out.below HO.out.b).els hmy)
  rw [HKY.out] at HQ
  go_wp2_with fail
  refine HQ.out.mono ?_
  rintro e W2 ⟨rfl, hb⟩
  have HO := Lib.hid (HO.out.next hb)
  clear hb HQ
  go_upto_region 3 with fail
  go_cut [27] (fun s27 wx => s27 = .bool (k1.isSome && k2.isSome) ∧ W2 = wx)
  case first =>
    cases k1 with
    | none => (go_wp2_with fail); (go_meet); (exact ⟨rfl, rfl⟩)
    | some p => (cases k2 with | none => (go_wp2_with fail); (go_meet); (exact ⟨rfl, rfl⟩) | some q => (go_wp2_with fail); (go_meet); (exact ⟨rfl, rfl⟩))
  case rest =>
  obtain ⟨rfl, rfl⟩ := hcut
  obtain ⟨bb, hbb⟩ : ∃ bb, (k1.isSome && k2.isSome) = bb := ⟨_, rfl⟩
  rw [hbb]
  have HBB := Lib.hid hbb
  clear hbb
  go_upto_if 27 with fail
  go_cut [11, 12] (fun s11 s12 wx => OpBox w wx w.heap.size o (.slice pa o.p.length pc))
  case first =>
    cases bb with
    | false => (go_wp2_with fail); (go_meet); (exact HO.out)
    | true =>
      have hbb := HBB.out
      cases k1 with
      | none => cases hbb
      | some p =>
       cases k2 with
       | none => cases hbb
       | some q =>
        clear hbb
        obtain ⟨m, e0, hd⟩ : ∃ m e0, dyadF o.fn p q = (m, e0) := ⟨_, _, rfl⟩
        have he : (e0 == 0) = false := by
          have h2 := H2.out
          unfold twoC at h2
          rw [HKX.out, HKY.out] at h2
          dsimp only at h2
          rw [hd] at h2
          rw [beq_eq_false_iff_ne]
          intro h
          rw [if_pos h] at h2
          cases h2
        have HQ := Lib.hid (dyad_at W2 o.fn p q m e0 (HI1.out p rfl) (HI2.out q rfl) hd)
        have x4 := HO.out.c4
        clear hd
        go_wp2_with fail
        refine HQ.out.mono ?_
        rintro e W3 ⟨rfl, nd, rfl⟩
        have HO := Lib.hid (HO.out.next (Below.drewN W2 nd))
        clear HQ x4
        go_wp2_with fail
        go_meet
        exact HO.out
  case rest =>
    clear HO
    have HO := Lib.hid hcut
    clear hcut
    have x4 := HO.out.c4
    rw [HF.out] at x4
    have HG2 := Lib.hid g2
    clear g2
    have hq := only_any wc a2 c2 y 1 (HY.out.below HO.out.b).els hmy
    rw [HG2.out] at hq
    have HQ := Lib.hid hq
    clear hq
    go_wp2_with fail
    refine HQ.out.mono ?_
    rintro e U2 ⟨rfl, hb⟩
    have HO := Lib.hid (HO.out.next hb)
    clear hb HQ
    go_wp2_with fail
    go_ret
    exact ⟨⟨_, rfl, HX.out.below HO.out.b⟩, HO.out.b⟩
set_option maxHeartbeats 4000000 in
theorem dyad13_17j (w : World) (B : Bd) (hB : B ≤ w.heap.size) (a a2 : Option Addr) (c c2 : Nat) (x y : List Cop) (hx : CopS B w (.slice a x.length c) x) (hy : CopS B w (.slice a2 y.length c2) y) (hl : x.length + y.length + 1 ≤ 2513169434843) (o : Cop) (pa : Option Addr) (pc : Nat) (hp : MonS B w (.slice pa o.p.length pc) o.p) (ho : OkO o) (hf : o.fn = 17) (g2 : onlyC y 1 = false) (h2 : twoC o.fn x y = none) :
    Calls Try.prog 56 #[.slice a x.length c, .slice a2 y.length c2, opV o pa pc] w (RetC B w (dyadC x y o)) := by
  rw [dyadC_j h2 (by unfold ruleY; rw [hf]; simp [*]) (by unfold ruleX; rw [hf]; simp [*]) (by unfold ruleZ; rw [hf]; simp [*])]
  have H2 := Lib.hid h2
  have HF := Lib.hid hf
  clear h2 hf
  obtain ⟨k1, hk1⟩ : ∃ k, knownC x = k := ⟨_, rfl⟩
  obtain ⟨k2, hk2⟩ : ∃ k, knownC y = k := ⟨_, rfl⟩
  have HKX := Lib.hid hk1; have HKY := Lib.hid hk2
  have hi1 := fun n (h : k1 = some n) => known_in hx (hk1.trans h); have hi2 := fun n (h : k2 = some n) => known_in hy (hk2.trans h)
  have HI1 := Lib.hid hi1; have HI2 := Lib.hid hi2
  clear hi1 hi2 hk1 hk2
  have HX := Lib.hid hx; have HY := Lib.hid hy; have HP := Lib.hid hp; have OKO := Lib.hid ho; have HB0 := Lib.hid hB; have HLL := Lib.hid hl
  have HO := Lib.hid (OpBox.new w o (.slice pa o.p.length pc))
  have hmx := hx.le; have hmy := hy.le
  unfold opV
  clear hx hy hp ho hB hl
  go_enter Try.func56, Try.ntmps56
  go_upto_region 1 with fail
  refine gen_worldA (fun W => OpBox w W w.heap.size o (.slice pa o.p.length pc)) HO.out ?_
  rintro W hO
  have HO := Lib.hid hO
  clear hO
  have HQ := Lib.hid (known_any W a c x (HX.out.below HO.out.b).els hmx)
  rw [HKX.out] at HQ
  go_wp2_with fail
  refine HQ.out.mono ?_
  rintro e W1 ⟨rfl, hb⟩
  have HO := Lib.hid (HO.out.next hb)
  clear hb HQ
  have HQ := Lib.hid (known_any W1 a2 c2 y (HY.out.below HO.out.b).els hmy)
  rw [HKY.out] at HQ
  go_wp2_with fail
  refine HQ.out.mono ?_
  rintro e W2 ⟨rfl, hb⟩
  have HO := Lib.hid (HO.out.next hb)
  clear hb HQ
  go_upto_region 3 with fail
  go_cut [27] (fun s27 wx => s27 = .bool (k1.isSome && k2.isSome) ∧ W2 = wx)
  case first =>
    cases k1 with
    | none => (go_wp2_with fail); (go_meet); (exact ⟨rfl, rfl⟩)
    | some p => (cases k2 with | none => (go_wp2_with fail); (go_meet); (exact ⟨rfl, rfl⟩) | some q => (go_wp2_with fail); (go_meet); (exact ⟨rfl, rfl⟩))
  case rest =>
  obtain ⟨rfl, rfl⟩ := hcut
  obtain ⟨bb, hbb⟩ : ∃ bb, (k1.isSome && k2.isSome) = bb := ⟨_, rfl⟩
  rw [hbb]
  have HBB := Lib.hid hbb
  clear hbb
  go_upto_if 27 with fail
  go_cut [11, 12] (fun s11 s12 wx => OpBox w wx w.heap.size o (.slice pa o.p.length pc))
  case first =>
    cases bb with
    | false => (go_wp2_with fail); (go_meet); (exact HO.out)
    | true =>
      have hbb := HBB.out
      cases k1 with
      | none => cases hbb
      | some p =>
       cases k2 with
       | none => cases hbb
       | some q =>
        clear hbb
        obtain ⟨m, e0, hd⟩ : ∃ m e0, dyadF o.fn p q = (m, e0) := ⟨_, _, rfl⟩
        have he : (e0 == 0) = false := by
          have h2 := H2.out
          unfold twoC at h2
          rw [HKX.out, HKY.out] at h2
          dsimp only at h2
          rw [hd] at h2
          rw [beq_eq_false_iff_ne]
          intro h
          rw [if_pos h] at h2
          cases h2
        have HQ := Lib.hid (dyad_at W2 o.fn p q m e0 (HI1.out p rfl) (HI2.out q rfl) hd)
        have x4 := HO.out.c4
        clear hd
        go_wp2_with fail
        refine HQ.out.mono ?_
        rintro e W3 ⟨rfl, nd, rfl⟩
        have HO := Lib.hid (HO.out.next (Below.drewN W2 nd))
        clear HQ x4
        go_wp2_with fail
        go_meet
        exact HO.out
  case rest =>
    clear HO
    have HO := Lib.hid hcut
    clear hcut
    have x4 := HO.out.c4
    rw [HF.out] at x4
    have HG2 := Lib.hid g2
    clear g2
    have hq := only_any wc a2 c2 y 1 (HY.out.below HO.out.b).els hmy
    rw [HG2.out] at hq
    have HQ := Lib.hid hq
    clear hq
    go_wp2_with fail
    refine HQ.out.mono ?_
    rintro e U2 ⟨rfl, hb⟩
    have HO := Lib.hid (HO.out.next hb)
    clear hb HQ
    have y0 := HO.out.c0; have y1 := HO.out.c1; have y2 := HO.out.c2; have y3 := HO.out.c3; have y4 := HO.out.c4
    obtain ⟨G1, hG1⟩ : ∃ G, U2.heap.size = G := ⟨_, rfl⟩
    have HQ := Lib.hid (join3_any U2 B G1 (G1 + 1) (Nat.le_trans HB0.out HO.out.b.size) hG1 rfl _ _ x y (HX.out.below HO.out.b) (HY.out.below HO.out.b) o _ (HP.out.below HO.out.b) OKO.out HLL.out)
    skip
    go_wp2_with fail
    refine HQ.out.mono ?_
    rintro e' w2 ⟨⟨v2, rfl, hv2⟩, hb2⟩
    go_wp2_with fail
    go_ret
    exact ⟨⟨_, rfl, hv2⟩, bNext hb2 HO.out.b⟩
set_option maxHeartbeats 4000000 in
theorem dyad13_3y (w : World) (B : Bd) (hB : B ≤ w.heap.size) (a a2 : Option Addr) (c c2 : Nat) (x y : List Cop) (hx : CopS B w (.slice a x.length c) x) (hy : CopS B w (.slice a2 y.length c2) y) (hl : x.length + y.length + 1 ≤ 2513169434843) (o : Cop) (pa : Option Addr) (pc : Nat) (hp : MonS B w (.slice pa o.p.length pc) o.p) (ho : OkO o) (hf : o.fn = 3) (g1 : onlyC x 1 = true) (h2 : twoC o.fn x y = none) :
    Calls Try.prog 56 #[.slice a x.length c, .slice a2 y.length c2, opV o pa pc] w (RetC B w (dyadC x y o)) := by
  rw [dyadC_y h2 (by unfold ruleY; rw [hf]; simp [*])]
  have H2 := Lib.hid h2
  have HF := Lib.hid hf
  clear h2 hf
  obtain ⟨k1, hk1⟩ : ∃ k, knownC x = k := ⟨_, rfl⟩
  obtain ⟨k2, hk2⟩ : ∃ k, knownC y = k := ⟨_, rfl⟩
  have HKX := Lib.hid hk1; have HKY := Lib.hid hk2
  have hi1 := fun n (h : k1 = some n) => known_in hx (hk1.trans h); have hi2 := fun n (h : k2 = some n) => known_in hy (hk2.trans h)
  have HI1 := Lib.hid hi1; have HI2 := Lib.hid hi2
  clear hi1 hi2 hk1 hk2
  have HX := Lib.hid hx; have HY := Lib.hid hy; have HP := Lib.hid hp; have OKO := Lib.hid ho; have HB0 := Lib.hid hB; have HLL := Lib.hid hl
  have HO := Lib.hid (OpBox.new w o (.slice pa o.p.length pc))
  have hmx := hx.le; have hmy := hy.le
  unfold opV
  clear hx hy hp ho hB hl
  go_enter Try.func56, Try.ntmps56
  go_upto_region 1 with fail
  refine gen_worldA (fun W => OpBox w W w.heap.size o (.slice pa o.p.length pc)) HO.out ?_
  rintro W hO
  have HO := Lib.hid hO
  clear hO
  have HQ := Lib.hid (known_any W a c x (HX.out.below HO.out.b).els hmx)
  rw [HKX.out] at HQ
  go_wp2_with fail
  refine HQ.out.mono ?_
  rintro e W1 ⟨rfl, hb⟩
  have HO := Lib.hid (HO.out.next hb)
  clear hb HQ
  have HQ := Lib.hid (known_any W1 a2 c2 y (HY.out.below HO.out.b).els hmy)
  rw [HKY.out] at HQ
  go_wp2_with fail
  refine HQ.out.mono ?_
  rintro e W2 ⟨rfl, hb⟩
  have HO := Lib.hid (HO.out.next hb)
  clear hb HQ
  go_upto_region 3 with fail
  go_cut [27] (fun s27 wx => s27 = .bool (k1.isSome && k2.isSome) ∧ W2 = wx)
  case first =>
    cases k1 with
    | none => (go_wp2_with fail); (go_meet); (exact ⟨rfl, rfl⟩)
    | some p => (cases k2 with | none => (go_wp2_with fail); (go_meet); (exact ⟨rfl, rfl⟩) | some q => (go_wp2_with fail); (go_meet); (exact ⟨rfl, rfl⟩))
  case rest =>
  obtain ⟨rfl, rfl⟩ := hcut
  obtain ⟨bb, hbb⟩ : ∃ bb, (k1.isSome && k2.isSome) = bb := ⟨_, rfl⟩
  rw [hbb]
  have HBB := Lib.hid hbb
  clear hbb
  go_upto_if 27 with fail
  go_cut [11, 12] (fun s11 s12 wx => OpBox w wx w.heap.size o (.slice pa o.p.length pc))
  case first =>
    cases bb with
    | false => (go_wp2_with fail); (go_meet); (exact HO.out)
    | true =>
      have hbb := HBB.out
      cases k1 with
      | none => cases hbb
      | some p =>
       cases k2 with
       | none => cases hbb
       | some q =>
        clear hbb
        obtain ⟨m, e0, hd⟩ : ∃ m e0, dyadF o.fn p q = (m, e0) := ⟨_, _, rfl⟩
        have he : (e0 == 0) = false := by
          have h2 := H2.out
          unfold twoC at h2
          rw [HKX.out, HKY.out] at h2
          dsimp only at h2
          rw [hd] at h2
          rw [beq_eq_false_iff_ne]
          intro h
          rw [if_pos h] at h2
          cases h2
        have HQ := Lib.hid (dyad_at W2 o.fn p q m e0 (HI1.out p rfl) (HI2.out q rfl) hd)
        have x4 := HO.out.c4
        clear hd
        go_wp2_with fail
        refine HQ.out.mono ?_
        rintro e W3 ⟨rfl, nd, rfl⟩
        have HO := Lib.hid (HO.out.next (Below.drewN W2 nd))
        clear HQ x4
        go_wp2_with fail
        go_meet
        exact HO.out
  case rest =>
    clear HO
    have HO := Lib.hid hcut
    clear hcut
    have x4 := HO.out.c4
    rw [HF.out] at x4
    have HG1 := Lib.hid g1
    clear g1
    have hq := only_any wc a c x 1 (HX.out.below HO.out.b).els hmx
    rw [HG1.out] at hq
    have HQ := Lib.hid hq
    clear hq
    go_wp2_with fail
    refine HQ.out.mono ?_
    rintro e U1 ⟨rfl, hb⟩
    have HO := Lib.hid (HO.out.next hb)
    clear hb HQ
    go_wp2_with fail
    go_ret
    exact ⟨⟨_, rfl, HY.out.below HO.out.b⟩, HO.out.b⟩
set_option maxHeartbeats 4000000 in
theorem dyad13_3x (w : World) (B : Bd) (hB : B ≤ w.heap.size) (a a2 : Option Addr) (c c2 : Nat) (x y : List Cop) (hx : CopS B w (.slice a x.length c) x) (hy : CopS B w (.slice a2 y.length c2) y) (hl : x.length + y.length + 1 ≤ 2513169434843) (o : Cop) (pa : Option Addr) (pc : Nat) (hp : MonS B w (.slice pa o.p.length pc) o.p) (ho : OkO o) (hf : o.fn = 3) (g1 : onlyC x 1 = false) (g2 : onlyC y 1 = true) (h2 : twoC o.fn x y = none) :
    Calls Try.prog 56 #[.slice a x.length c, .slice a2 y.length c2, opV o pa pc] w (RetC B w (dyadC x y o)) := by
  rw [dyadC_x h2 (by unfold ruleY; rw [hf]; simp [*]) (by unfold ruleX; rw [hf]; simp [*])]
  have H2 := Lib.hid h2
  have HF := Lib.hid hf
  clear h2 hf
  obtain ⟨k1, hk1⟩ : ∃ k, knownC x = k := ⟨_, rfl⟩
  obtain ⟨k2, hk2⟩ : ∃ k, knownC y = k := ⟨_, rfl⟩
  have HKX := Lib.hid hk1; have HKY := Lib.hid hk2
  have hi1 := fun n (h : k1 = some n) => known_in hx (hk1.trans h); have hi2 := fun n (h : k2 = some n) => known_in hy (hk2.trans h)
  have HI1 := Lib.hid hi1; have HI2 := Lib.hid hi2
  clear hi1 hi2 hk1 hk2
  have HX := Lib.hid hx; have HY := Lib.hid hy; have HP := Lib.hid hp; have OKO := Lib.hid ho; have HB0 := Lib.hid hB; have HLL := Lib.hid hl
  have HO := Lib.hid (OpBox.new w o (.slice pa o.p.length pc))
  have hmx := hx.le; have hmy := hy.le
  unfold opV
  clear hx hy hp ho hB hl
  go_enter Try.func56, Try.ntmps56
  go_upto_region 1 with fail
  refine gen_worldA (fun W => OpBox w W w.heap.size o (.slice pa o.p.length pc)) HO.out ?_
  rintro W hO
  have HO := Lib.hid hO
  clear hO
  have HQ := Lib.hid (known_any W a c x (HX.out.below HO.out.b).els hmx)
  rw [HKX.out] at HQ
  go_wp2_with fail
  refine HQ.out.mono ?_
  rintro e W1 ⟨rfl, hb⟩
  have HO := Lib.hid (HO.out.next hb)
  clear hb HQ
  have HQ := Lib.hid (known_any W1 a2 c2 y (HY.out.below HO.out.b).els hmy)
  rw [HKY.out] at HQ
  go_wp2_with fail
  refine HQ.out.mono ?_
  rintro e W2 ⟨rfl, hb⟩
  have HO := Lib.hid (HO.out.next hb)
  clear hb HQ
  go_upto_region 3 with fail
  go_cut [27] (fun s27 wx => s27 = .bool (k1.isSome && k2.isSome) ∧ W2 = wx)
  case first =>
    cases k1 with
    | none => (go_wp2_with fail); (go_meet); (exact ⟨rfl, rfl⟩)
    | some p => (cases k2 with | none => (go_wp2_with fail); (go_meet); (exact ⟨rfl, rfl⟩) | some q => (go_wp2_with fail); (go_meet); (exact ⟨rfl, rfl⟩))
  case rest =>
  obtain ⟨rfl, rfl⟩ := hcut
  obtain ⟨bb, hbb⟩ : ∃ bb, (k1.isSome && k2.isSome) = bb := ⟨_, rfl⟩
  rw [hbb]
  have HBB := Lib.hid hbb
  clear hbb
  go_upto_if 27 with fail
  go_cut [11, 12] (fun s11 s12 wx => OpBox w wx w.heap.size o (.slice pa o.p.length pc))
  case first =>
    cases bb with
    | false => (go_wp2_with fail); (go_meet); (exact HO.out)
    | true =>
      have hbb := HBB.out
      cases k1 with
      | none => cases hbb
      | some p =>
       cases k2 with
       | none => cases hbb
       | some q =>
        clear hbb
        obtain ⟨m, e0, hd⟩ : ∃ m e0, dyadF o.fn p q = (m, e0) := ⟨_, _, rfl⟩
        have he : (e0 == 0) = false := by
          have h2 := H2.out
          unfold twoC at h2
          rw [HKX.out, HKY.out] at h2
          dsimp only at h2
          rw [hd] at h2
          rw [beq_eq_false_iff_ne]
          intro h
          rw [if_pos h] at h2
          cases h2
        have HQ := Lib.hid (dyad_at W2 o.fn p q m e0 (HI1.out p rfl) (HI2.out q rfl) hd)
        have x4 := HO.out.c4
        clear hd
        go_wp2_with fail
        refine HQ.out.mono ?_
        rintro e W3 ⟨rfl, nd, rfl⟩
        have HO := Lib.hid (HO.out.next (Below.drewN W2 nd))
        clear HQ x4
        go_wp2_with fail
        go_meet
        exact HO.out
  case rest =>
    clear HO
    have HO := Lib.hid hcut
    clear hcut
    have x4 := HO.out.c4
    rw [HF.out] at x4
    have HG1 := Lib.hid g1; have HG2 := Lib.hid g2
    clear g1 g2
    have hq := only_any wc a c x 1 (HX.out.below HO.out.b).els hmx
    rw [HG1.out] at hq
    have HQ := Lib.hid hq
    clear hq
    go_wp2_with fail
    refine HQ.out.mono ?_
    rintro e U1 ⟨rfl, hb⟩
    have HO := Lib.hid (HO.out.next hb)
    clear hb HQ
    have hq := only_any U1 a2 c2 y 1 (HY.out.below HO.out.b).els hmy
    rw [HG2.out] at hq
    have HQ := Lib.hid hq
    clear hq
    go_wp2_with fail
    refine HQ.out.mono ?_
    rintro e U2 ⟨rfl, hb⟩
    have HO := Lib.hid (HO.out.next hb)
    clear hb HQ
    go_wp2_with fail
    go_ret
    exact ⟨⟨_, rfl, HX.out.below HO.out.b⟩, HO.out.b⟩
set_option maxHeartbeats 4000000 in
theorem dyad13_3z1 (w : World) (B : Bd) (hB : B ≤ w.heap.size) (a a2 : Option Addr) (c c2 : Nat) (x y : List Cop) (hx : CopS B w (.slice a x.length c) x) (hy : CopS B w (.slice a2 y.length c2) y) (hl : x.length + y.length + 1 ≤ 2513169434843) (o : Cop) (pa : Option Addr) (pc : Nat) (hp : MonS B w (.slice pa o.p.length pc) o.p) (ho : OkO o) (hf : o.fn = 3) (g1 : onlyC x 1 = false) (g2 : onlyC y 1 = false) (g3 : onlyC x 0 = true) (g4 : harmC y = true) (h2 : twoC o.fn x y = none) :
    Calls Try.prog 56 #[.slice a x.length c, .slice a2 y.length c2, opV o pa pc] w (RetC B w (dyadC x y o)) := by
  rw [dyadC_z h2 (by unfold ruleY; rw [hf]; simp [*]) (by unfold ruleX; rw [hf]; simp [*]) (by unfold ruleZ; rw [hf]; simp [*])]
  have H2 := Lib.hid h2
  have HF := Lib.hid hf
  clear h2 hf
  obtain ⟨k1, hk1⟩ : ∃ k, knownC x = k := ⟨_, rfl⟩
  obtain ⟨k2, hk2⟩ : ∃ k, knownC y = k := ⟨_, rfl⟩
  have HKX := Lib.hid hk1; have HKY := Lib.hid hk2
  have hi1 := fun n (h : k1 = some n) => known_in hx (hk1.trans h); have hi2 := fun n (h : k2 = some n) => known_in hy (hk2.trans h)
  have HI1 := Lib.hid hi1; have HI2 := Lib.hid hi2
  clear hi1 hi2 hk1 hk2
  have HX := Lib.hid hx; have HY := Lib.hid hy; have HP := Lib.hid hp; have OKO := Lib.hid ho; have HB0 := Lib.hid hB; have HLL := Lib.hid hl
  have HO := Lib.hid (OpBox.new w o (.slice pa o.p.length pc))
  have hmx := hx.le; have hmy := hy.le
  unfold opV
  clear hx hy hp ho hB hl
  go_enter Try.func56, Try.ntmps56
  go_upto_region 1 with fail
  refine gen_worldA (fun W => OpBox w W w.heap.size o (.slice pa o.p.length pc)) HO.out ?_
  rintro W hO
  have HO := Lib.hid hO
  clear hO
  have HQ := Lib.hid (known_any W a c x (HX.out.below HO.out.b).els hmx)
  rw [HKX.out] at HQ
  go_wp2_with fail
  refine HQ.out.mono ?_
  rintro e W1 ⟨rfl, hb⟩
  have HO := Lib.hid (HO.out.next hb)
  clear hb HQ
  have HQ := Lib.hid (known_any W1 a2 c2 y (HY.out.below HO.out.b).els hmy)
  rw [HKY.out] at HQ
  go_wp2_with fail
  refine HQ.out.mono ?_
  rintro e W2 ⟨rfl, hb⟩
  have HO := Lib.hid (HO.out.next hb)
  clear hb HQ
  go_upto_region 3 with fail
  go_cut [27] (fun s27 wx => s27 = .bool (k1.isSome && k2.isSome) ∧ W2 = wx)
  case first =>
    cases k1 with
    | none => (go_wp2_with fail); (go_meet); (exact ⟨rfl, rfl⟩)
    | some p => (cases k2 with | none => (go_wp2_with fail); (go_meet); (exact ⟨rfl, rfl⟩) | some q => (go_wp2_with fail); (go_meet); (exact ⟨rfl, rfl⟩))
  case rest =>
  obtain ⟨rfl, rfl⟩ := hcut
  obtain ⟨bb, hbb⟩ : ∃ bb, (k1.isSome && k2.isSome) = bb := ⟨_, rfl⟩
  rw [hbb]
  have HBB := Lib.hid hbb
  clear hbb
  go_upto_if 27 with fail
  go_cut [11, 12] (fun s11 s12 wx => OpBox w wx w.heap.size o (.slice pa o.p.length pc))
  case first =>
    cases bb with
    | false => (go_wp2_with fail); (go_meet); (exact HO.out)
    | true =>
      have hbb := HBB.out
      cases k1 with
      | none => cases hbb
      | some p =>
       cases k2 with
       | none => cases hbb
       | some q =>
        clear hbb
        obtain ⟨m, e0, hd⟩ : ∃ m e0, dyadF o.fn p q = (m, e0) := ⟨_, _, rfl⟩
        have he : (e0 == 0) = false := by
          have h2 := H2.out
          unfold twoC at h2
          rw [HKX.out, HKY.out] at h2
          dsimp only at h2
          rw [hd] at h2
          rw [beq_eq_false_iff_ne]
          intro h
          rw [if_pos h] at h2
          cases h2
        have HQ := Lib.hid (dyad_at W2 o.fn p q m e0 (HI1.out p rfl) (HI2.out q rfl) hd)
        have x4 := HO.out.c4
        clear hd
        go_wp2_with fail
        refine HQ.out.mono ?_
        rintro e W3 ⟨rfl, nd, rfl⟩
        have HO := Lib.hid (HO.out.next (Below.drewN W2 nd))
        clear HQ x4
        go_wp2_with fail
        go_meet
        exact HO.out
  case rest =>
    clear HO
    have HO := Lib.hid hcut
    clear hcut
    have x4 := HO.out.c4
    rw [HF.out] at x4
    have HG1 := Lib.hid g1; have HG2 := Lib.hid g2; have HG3 := Lib.hid g3; have HG4 := Lib.hid g4
    have HN := Lib.hid (fun W hL => numC_any W B hL 0 (by unfold I64; omega))
    clear g1 g2 g3 g4
    have hq := only_any wc a c x 1 (HX.out.below HO.out.b).els hmx
    rw [HG1.out] at hq
    have HQ := Lib.hid hq
    clear hq
    go_wp2_with fail
    refine HQ.out.mono ?_
    rintro e U1 ⟨rfl, hb⟩
    have HO := Lib.hid (HO.out.next hb)
    clear hb HQ
    have hq := only_any U1 a2 c2 y 1 (HY.out.below HO.out.b).els hmy
    rw [HG2.out] at hq
    have HQ := Lib.hid hq
    clear hq
    go_wp2_with fail
    refine HQ.out.mono ?_
    rintro e U2 ⟨rfl, hb⟩
    have HO := Lib.hid (HO.out.next hb)
    clear hb HQ
    have hq := only_any U2 a c x 0 (HX.out.below HO.out.b).els hmx
    rw [HG3.out] at hq
    have HQ := Lib.hid hq
    clear hq
    go_wp2_with fail
    refine HQ.out.mono ?_
    rintro e U3 ⟨rfl, hb⟩
    have HO := Lib.hid (HO.out.next hb)
    clear hb HQ
    have hq := harmless_any U3 a2 c2 y (HY.out.below HO.out.b).els (by unfold maxLen; exact hmy)
    rw [HG4.out] at hq
    have HQ := Lib.hid hq
    clear hq
    go_wp2_with fail
    refine HQ.out.mono ?_
    rintro e U4 ⟨rfl, hb⟩
    have HO := Lib.hid (HO.out.next hb)
    clear hb HQ
    have HQ := Lib.hid (HN.out U4 (Nat.le_trans (Bd.low HB0.out) HO.out.b.size))
    go_wp2_with fail
    refine HQ.out.mono ?_
    rintro e w2 ⟨⟨v2, rfl, hv2⟩, hb2⟩
    go_wp2_with fail
    go_ret
    exact ⟨⟨_, rfl, hv2⟩, bNext hb2 HO.out.b⟩
set_option maxHeartbeats 4000000 in
theorem dyad13_3nono (w : World) (B : Bd) (hB : B ≤ w.heap.size) (a a2 : Option Addr) (c c2 : Nat) (x y : List Cop) (hx : CopS B w (.slice a x.length c) x) (hy : CopS B w (.slice a2 y.length c2) y) (hl : x.length + y.length + 1 ≤ 2513169434843) (o : Cop) (pa : Option Addr) (pc : Nat) (hp : MonS B w (.slice pa o.p.length pc) o.p) (ho : OkO o) (hf : o.fn = 3) (g1 : onlyC x 1 = false) (g2 : onlyC y 1 = false) (g3 : onlyC x 0 = false) (g5 : onlyC y 0 = false) (h2 : twoC o.fn x y = none) :
    Calls Try.prog 56 #[.slice a x.length c, .slice a2 y.length c2, opV o pa pc] w (RetC B w (dyadC x y o)) := by
  rw [dyadC_j h2 (by unfold ruleY; rw [hf]; simp [*]) (by unfold ruleX; rw [hf]; simp [*]) (by unfold ruleZ; rw [hf]; simp [*])]
  have H2 := Lib.hid h2
  have HF := Lib.hid hf
  clear h2 hf
  obtain ⟨k1, hk1⟩ : ∃ k, knownC x = k := ⟨_, rfl⟩
  obtain ⟨k2, hk2⟩ : ∃ k, knownC y = k := ⟨_, rfl⟩
  have HKX := Lib.hid hk1; have HKY := Lib.hid hk2
  have hi1 := fun n (h : k1 = some n) => known_in hx (hk1.trans h); have hi2 := fun n (h : k2 = some n) => known_in hy (hk2.trans h)
  have HI1 := Lib.hid hi1; have HI2 := Lib.hid hi2
  clear hi1 hi2 hk1 hk2
  have HX := Lib.hid hx; have HY := Lib.hid hy; have HP := Lib.hid hp; have OKO := Lib.hid ho; have HB0 := Lib.hid hB; have HLL := Lib.hid hl
  have HO := Lib.hid (OpBox.new w o (.slice pa o.p.length pc))
  have hmx := hx.le; have hmy := hy.le
  unfold opV
  clear hx hy hp ho hB hl
  go_enter Try.func56, Try.ntmps56
  go_upto_region 1 with fail
  refine gen_worldA (fun W => OpBox w W w.heap.size o (.slice pa o.p.length pc)) HO.out ?_
  rintro W hO
  have HO := Lib.hid hO
  clear hO
  have HQ := Lib.hid (known_any W a c x (HX.out.below HO.out.b).els hmx)
  rw [HKX.out] at HQ
  go_wp2_with fail
  refine HQ.out.mono ?_
  rintro e W1 ⟨rfl, hb⟩
  have HO := Lib.hid (HO.out.next hb)
  clear hb HQ
  have HQ := Lib.hid (known_any W1 a2 c2 y (HY.out.below HO.out.b).els hmy)
  rw [HKY.out] at HQ
  go_wp2_with fail
  refine HQ.out.mono ?_
  rintro e W2 ⟨rfl, hb⟩
  have HO := Lib.hid (HO.out.next hb)
  clear hb HQ
  go_upto_region 3 with fail
  go_cut [27] (fun s27 wx => s27 = .bool (k1.isSome && k2.isSome) ∧ W2 = wx)
  case first =>
    cases k1 with
    | none => (go_wp2_with fail); (go_meet); (exact ⟨rfl, rfl⟩)
    | some p => (cases k2 with | none => (go_wp2_with fail); (go_meet); (exact ⟨rfl, rfl⟩) | some q => (go_wp2_with fail); (go_meet); (exact ⟨rfl, rfl⟩))
  case rest =>
  obtain ⟨rfl, rfl⟩ := hcut
  obtain ⟨bb, hbb⟩ : ∃ bb, (k1.isSome && k2.isSome) = bb := ⟨_, rfl⟩
  rw [hbb]
  have HBB := Lib.hid hbb
  clear hbb
  go_upto_if 27 with fail
  go_cut [11, 12] (fun s11 s12 wx => OpBox w wx w.heap.size o (.slice pa o.p.length pc))
  case first =>
    cases bb with
    | false => (go_wp2_with fail); (go_meet); (exact HO.out)
    | true =>
      have hbb := HBB.out
      cases k1 with
      | none => cases hbb
      | some p =>
       cases k2 with
       | none => cases hbb
       | some q =>
        clear hbb
        obtain ⟨m, e0, hd⟩ : ∃ m e0, dyadF o.fn p q = (m, e0) := ⟨_, _, rfl⟩
        have he : (e0 == 0) = false := by
          have h2 := H2.out
          unfold twoC at h2
          rw [HKX.out, HKY.out] at h2
          dsimp only at h2
          rw [hd] at h2
          rw [beq_eq_false_iff_ne]
          intro h
          rw [if_pos h] at h2
          cases h2
        have HQ := Lib.hid (dyad_at W2 o.fn p q m e0 (HI1.out p rfl) (HI2.out q rfl) hd)
        have x4 := HO.out.c4
        clear hd
        go_wp2_with fail
        refine HQ.out.mono ?_
        rintro e W3 ⟨rfl, nd, rfl⟩
        have HO := Lib.hid (HO.out.next (Below.drewN W2 nd))
        clear HQ x4
        go_wp2_with fail
        go_meet
        exact HO.out
  case rest =>
    clear HO
    have HO := Lib.hid hcut
    clear hcut
    have x4 := HO.out.c4
    rw [HF.out] at x4
    have HG1 := Lib.hid g1; have HG2 := Lib.hid g2; have HG3 := Lib.hid g3; have HG5 := Lib.hid g5
    clear g1 g2 g3 g5
    have hq := only_any wc a c x 1 (HX.out.below HO.out.b).els hmx
    rw [HG1.out] at hq
    have HQ := Lib.hid hq
    clear hq
    go_wp2_with fail
    refine HQ.out.mono ?_
    rintro e U1 ⟨rfl, hb⟩
    have HO := Lib.hid (HO.out.next hb)
    clear hb HQ
    have hq := only_any U1 a2 c2 y 1 (HY.out.below HO.out.b).els hmy
    rw [HG2.out] at hq
    have HQ := Lib.hid hq
    clear hq
    go_wp2_with fail
    refine HQ.out.mono ?_
    rintro e U2 ⟨rfl, hb⟩
    have HO := Lib.hid (HO.out.next hb)
    clear hb HQ
    have hq := only_any U2 a c x 0 (HX.out.below HO.out.b).els hmx
    rw [HG3.out] at hq
    have HQ := Lib.hid hq
    clear hq
    go_wp2_with fail
    refine HQ.out.mono ?_
    rintro e U3 ⟨rfl, hb⟩
    have HO := Lib.hid (HO.out.next hb)
    clear hb HQ
    have hq := only_any U3 a2 c2 y 0 (HY.out.below HO.out.b).els hmy
    rw [HG5.out] at hq
    have HQ := Lib.hid hq
    clear hq
    go_wp2_with fail
    refine HQ.out.mono ?_
    rintro e U5 ⟨rfl, hb⟩
    have HO := Lib.hid (HO.out.next hb)
    clear hb HQ
    have y0 := HO.out.c0; have y1 := HO.out.c1; have y2 := HO.out.c2; have y3 := HO.out.c3; have y4 := HO.out.c4
    obtain ⟨G1, hG1⟩ : ∃ G, U5.heap.size = G := ⟨_, rfl⟩
    have HQ := Lib.hid (join3_any U5 B G1 (G1 + 1) (Nat.le_trans HB0.out HO.out.b.size) hG1 rfl _ _ x y (HX.out.below HO.out.b) (HY.out.below HO.out.b) o _ (HP.out.below HO.out.b) OKO.out HLL.out)
    skip
    go_wp2_with fail
    refine HQ.out.mono ?_
    rintro e' w2 ⟨⟨v2, rfl, hv2⟩, hb2⟩
    go_wp2_with fail
    go_ret
    exact ⟨⟨_, rfl, hv2⟩, bNext hb2 HO.out.b⟩
set_option maxHeartbeats 4000000 in
theorem dyad13_3noharms (w : World) (B : Bd) (hB : B ≤ w.heap.size) (a a2 : Option Addr) (c c2 : Nat) (x y : List Cop) (hx : CopS B w (.slice a x.length c) x) (hy : CopS B w (.slice a2 y.length c2) y) (hl : x.length + y.length + 1 ≤ 2513169434843) (o : Cop) (pa : Option Addr) (pc : Nat) (hp : MonS B w (.slice pa o.p.length pc) o.p) (ho : OkO o) (hf : o.fn = 3) (g1 : onlyC x 1 = false) (g2 : onlyC y 1 = false) (g3 : onlyC x 0 = false) (g5 : onlyC y 0 = true) (g6 : harmC x = false) (h2 : twoC o.fn x y = none) :
    Calls Try.prog 56 #[.slice a x.length c, .slice a2 y.length c2, opV o pa pc] w (RetC B w (dyadC x y o)) := by
  rw [dyadC_j h2 (by unfold ruleY; rw [hf]; simp [*]) (by unfold ruleX; rw [hf]; simp [*]) (by unfold ruleZ; rw [hf]; simp [*])]
  have H2 := Lib.hid h2
  have HF := Lib.hid hf
  clear h2 hf
  obtain ⟨k1, hk1⟩ : ∃ k, knownC x = k := ⟨_, rfl⟩
  obtain ⟨k2, hk2⟩ : ∃ k, knownC y = k := ⟨_, rfl⟩
  have HKX := Lib.hid hk1; have HKY := Lib.hid hk2
  have hi1 := fun n (h : k1 = some n) => known_in hx (hk1.trans h); have hi2 := fun n (h : k2 = some n) => known_in hy (hk2.trans h)
  have HI1 := Lib.hid hi1; have HI2 := Lib.hid hi2
  clear hi1 hi2 hk1 hk2
  have HX := Lib.hid hx; have HY := Lib.hid hy; have HP := Lib.hid hp; have OKO := Lib.hid ho; have HB0 := Lib.hid hB; have HLL := Lib.hid hl
  have HO := Lib.hid (OpBox.new w o (.slice pa o.p.length pc))
  have hmx := hx.le; have hmy := hy.le
  unfold opV
  clear hx hy hp ho hB hl
  go_enter Try.func56, Try.ntmps56
  go_upto_region 1 with fail
  refine gen_worldA (fun W => OpBox w W w.heap.size o (.slice pa o.p.length pc)) HO.out ?_
  rintro W hO
  have HO := Lib.hid hO
  clear hO
  have HQ := Lib.hid (known_any W a c x (HX.out.below HO.out.b).els hmx)
  rw [HKX.out] at HQ
  go_wp2_with fail
  refine HQ.out.mono ?_
  rintro e W1 ⟨rfl, hb⟩
  have HO := Lib.hid (HO.out.next hb)
  clear hb HQ
  have HQ := Lib.hid (known_any W1 a2 c2 y (HY.out.below HO.out.b).els hmy)
  rw [HKY.out] at HQ
  go_wp2_with fail
  refine HQ.out.mono ?_
  rintro e W2 ⟨rfl, hb⟩
  have HO := Lib.hid (HO.out.next hb)
  clear hb HQ
  go_upto_region 3 with fail
  go_cut [27] (fun s27 wx => s27 = .bool (k1.isSome && k2.isSome) ∧ W2 = wx)
  case first =>
    cases k1 with
    | none => (go_wp2_with fail); (go_meet); (exact ⟨rfl, rfl⟩)
    | some p => (cases k2 with | none => (go_wp2_with fail); (go_meet); (exact ⟨rfl, rfl⟩) | some q => (go_wp2_with fail); (go_meet); (exact ⟨rfl, rfl⟩))
  case rest =>
  obtain ⟨rfl, rfl⟩ := hcut
  obtain ⟨bb, hbb⟩ : ∃ bb, (k1.isSome && k2.isSome) = bb := ⟨_, rfl⟩
  rw [hbb]
  have HBB := Lib.hid hbb
  clear hbb
  go_upto_if 27 with fail
  go_cut [11, 12] (fun s11 s12 wx => OpBox w wx w.heap.size o (.slice pa o.p.length pc))
  case first =>
    cases bb with
    | false => (go_wp2_with fail); (go_meet); (exact HO.out)
    | true =>
      have hbb := HBB.out
      cases k1 with
      | none => cases hbb
      | some p =>
       cases k2 with
       | none => cases hbb
       | some q =>
        clear hbb
        obtain ⟨m, e0, hd⟩ : ∃ m e0, dyadF o.fn p q = (m, e0) := ⟨_, _, rfl⟩
        have he : (e0 == 0) = false := by
          have h2 := H2.out
          unfold twoC at h2
          rw [HKX.out, HKY.out] at h2
          dsimp only at h2
          rw [hd] at h2
          rw [beq_eq_false_iff_ne]
          intro h
          rw [if_pos h] at h2
          cases h2
        have HQ := Lib.hid (dyad_at W2 o.fn p q m e0 (HI1.out p rfl) (HI2.out q rfl) hd)
        have x4 := HO.out.c4
        clear hd
        go_wp2_with fail
        refine HQ.out.mono ?_
        rintro e W3 ⟨rfl, nd, rfl⟩
        have HO := Lib.hid (HO.out.next (Below.drewN W2 nd))
        clear HQ x4
        go_wp2_with fail
        go_meet
        exact HO.out
  case rest =>
    clear HO
    have HO := Lib.hid hcut
    clear hcut
    have x4 := HO.out.c4
    rw [HF.out] at x4
    have HG1 := Lib.hid g1; have HG2 := Lib.hid g2; have HG3 := Lib.hid g3; have HG5 := Lib.hid g5; have HG6 := Lib.hid g6
    clear g1 g2 g3 g5 g6
    have hq := only_any wc a c x 1 (HX.out.below HO.out.b).els hmx
    rw [HG1.out] at hq
    have HQ := Lib.hid hq
    clear hq
    go_wp2_with fail
    refine HQ.out.mono ?_
    rintro e U1 ⟨rfl, hb⟩
    have HO := Lib.hid (HO.out.next hb)
    clear hb HQ
    have hq := only_any U1 a2 c2 y 1 (HY.out.below HO.out.b).els hmy
    rw [HG2.out] at hq
    have HQ := Lib.hid hq
    clear hq
    go_wp2_with fail
    refine HQ.out.mono ?_
    rintro e U2 ⟨rfl, hb⟩
    have HO := Lib.hid (HO.out.next hb)
    clear hb HQ
    have hq := only_any U2 a c x 0 (HX.out.below HO.out.b).els hmx
    rw [HG3.out] at hq
    have HQ := Lib.hid hq
    clear hq
    go_wp2_with fail
    refine HQ.out.mono ?_
    rintro e U3 ⟨rfl, hb⟩
    have HO := Lib.hid (HO.out.next hb)
    clear hb HQ
    have hq := only_any U3 a2 c2 y 0 (HY.out.below HO.out.b).els hmy
    rw [HG5.out] at hq
    have HQ := Lib.hid hq
    clear hq
    go_wp2_with fail
    refine HQ.out.mono ?_
    rintro e U5 ⟨rfl, hb⟩
    have HO := Lib.hid (HO.out.next hb)
    clear hb HQ
    have hq := harmless_any U5 a c x (HX.out.below HO.out.b).els (by unfold maxLen; exact hmx)
    rw [HG6.out] at hq
    have HQ := Lib.hid hq
    clear hq
    go_wp2_with fail
    refine HQ.out.mono ?_
    rintro e U6 ⟨rfl, hb⟩
    have HO := Lib.hid (HO.out.next hb)
    clear hb HQ
    have y0 := HO.out.c0; have y1 := HO.out.c1; have y2 := HO.out.c2; have y3 := HO.out.c3; have y4 := HO.out.c4
    obtain ⟨G1, hG1⟩ : ∃ G, U6.heap.size = G := ⟨_, rfl⟩
    have HQ := Lib.hid (join3_any U6 B G1 (G1 + 1) (Nat.le_trans HB0.out HO.out.b.size) hG1 rfl _ _ x y (HX.out.below HO.out.b) (HY.out.below HO.out.b) o _ (HP.out.below HO.out.b) OKO.out HLL.out)
    skip
    go_wp2_with fail
    refine HQ.out.mono ?_
    rintro e' w2 ⟨⟨v2, rfl, hv2⟩, hb2⟩
    go_wp2_with fail
    go_ret
    exact ⟨⟨_, rfl, hv2⟩, bNext hb2 HO.out.b⟩
set_option maxHeartbeats 4000000 in
theorem dyad13_3nook (w : World) (B : Bd) (hB : B ≤ w.heap.size) (a a2 : Option Addr) (c c2 : Nat) (x y : List Cop) (hx : CopS B w (.slice a x.length c) x) (hy : CopS B w (.slice a2 y.length c2) y) (hl : x.length + y.length + 1 ≤ 2513169434843) (o : Cop) (pa : Option Addr) (pc : Nat) (hp : MonS B w (.slice pa o.p.length pc) o.p) (ho : OkO o) (hf : o.fn = 3) (g1 : onlyC x 1 = false) (g2 : onlyC y 1 = false) (g3 : onlyC x 0 = false) (g5 : onlyC y 0 = true) (g6 : harmC x = true) (h2 : twoC o.fn x y = none) :
    Calls Try.prog 56 #[.slice a x.length c, .slice a2 y.length c2, opV o pa pc] w (RetC B w (dyadC x y o)) := by
  rw [dyadC_z h2 (by unfold ruleY; rw [hf]; simp [*]) (by unfold ruleX; rw [hf]; simp [*]) (by unfold ruleZ; rw [hf]; simp [*])]
  have H2 := Lib.hid h2
  have HF := Lib.hid hf
  clear h2 hf
  obtain ⟨k1, hk1⟩ : ∃ k, knownC x = k := ⟨_, rfl⟩
  obtain ⟨k2, hk2⟩ : ∃ k, knownC y = k := ⟨_, rfl⟩
  have HKX := Lib.hid hk1; have HKY := Lib.hid hk2
  have hi1 := fun n (h : k1 = some n) => known_in hx (hk1.trans h); have hi2 := fun n (h : k2 = some n) => known_in hy (hk2.trans h)
  have HI1 := Lib.hid hi1; have HI2 := Lib.hid hi2
  clear hi1 hi2 hk1 hk2
  have HX := Lib.hid hx; have HY := Lib.hid hy; have HP := Lib.hid hp; have OKO := Lib.hid ho; have HB0 := Lib.hid hB; have HLL := Lib.hid hl
  have HO := Lib.hid (OpBox.new w o (.slice pa o.p.length pc))
  have hmx := hx.le; have hmy := hy.le
  unfold opV
  clear hx hy hp ho hB hl
  go_enter Try.func56, Try.ntmps56
  go_upto_region 1 with fail
  refine gen_worldA (fun W => OpBox w W w.heap.size o (.slice pa o.p.length pc)) HO.out ?_
  rintro W hO
  have HO := Lib.hid hO
  clear hO
  have HQ := Lib.hid (known_any W a c x (HX.out.below HO.out.b).els hmx)
  rw [HKX.out] at HQ
  go_wp2_with fail
  refine HQ.out.mono ?_
  rintro e W1 ⟨rfl, hb⟩
  have HO := Lib.hid (HO.out.next hb)
  clear hb HQ
  have HQ := Lib.hid (known_any W1 a2 c2 y (HY.out.below HO.out.b).els hmy)
  rw [HKY.out] at HQ
  go_wp2_with fail
  refine HQ.out.mono ?_
  rintro e W2 ⟨rfl, hb⟩
  have HO := Lib.hid (HO.out.next hb)
  clear hb HQ
  go_upto_region 3 with fail
  go_cut [27] (fun s27 wx => s27 = .bool (k1.isSome && k2.isSome) ∧ W2 = wx)
  case first =>
    cases k1 with
    | none => (go_wp2_with fail); (go_meet); (exact ⟨rfl, rfl⟩)
    | some p => (cases k2 with | none => (go_wp2_with fail); (go_meet); (exact ⟨rfl, rfl⟩) | some q => (go_wp2_with fail); (go_meet); (exact ⟨rfl, rfl⟩))
  case rest =>
  obtain ⟨rfl, rfl⟩ := hcut
  obtain ⟨bb, hbb⟩ : ∃ bb, (k1.isSome && k2.isSome) = bb := ⟨_, rfl⟩
  rw [hbb]
  have HBB := Lib.hid hbb
  clear hbb
  go_upto_if 27 with fail
  go_cut [11, 12] (fun s11 s12 wx => OpBox w wx w.heap.size o (.slice pa o.p.length pc))
  case first =>
    cases bb with
    | false => (go_wp2_with fail); (go_meet); (exact HO.out)
    | true =>
      have hbb := HBB.out
      cases k1 with
      | none => cases hbb
      | some p =>
       cases k2 with
       | none => cases hbb
       | some q =>
        clear hbb
        obtain ⟨m, e0, hd⟩ : ∃ m e0, dyadF o.fn p q = (m, e0) := ⟨_, _, rfl⟩
        have he : (e0 == 0) = false := by
          have h2 := H2.out
          unfold twoC at h2
          rw [HKX.out, HKY.out] at h2
          dsimp only at h2
          rw [hd] at h2
          rw [beq_eq_false_iff_ne]
          intro h
          rw [if_pos h] at h2
          cases h2
        have HQ := Lib.hid (dyad_at W2 o.fn p q m e0 (HI1.out p rfl) (HI2.out q rfl) hd)
        have x4 := HO.out.c4
        clear hd
        go_wp2_with fail
        refine HQ.out.mono ?_
        rintro e W3 ⟨rfl, nd, rfl⟩
        have HO := Lib.hid (HO.out.next (Below.drewN W2 nd))
        clear HQ x4
        go_wp2_with fail
        go_meet
        exact HO.out
  case rest =>
    clear HO
    have HO := Lib.hid hcut
    clear hcut
    have x4 := HO.out.c4
    rw [HF.out] at x4
    have HG1 := Lib.hid g1; have HG2 := Lib.hid g2; have HG3 := Lib.hid g3; have HG5 := Lib.hid g5; have HG6 := Lib.hid g6
    have HN := Lib.hid (fun W hL => numC_any W B hL 0 (by unfold I64; omega))
    clear g1 g2 g3 g5 g6
    have hq := only_any wc a c x 1 (HX.out.below HO.out.b).els hmx
    rw [HG1.out] at hq
    have HQ := Lib.hid hq
    clear hq
    go_wp2_with fail
    refine HQ.out.mono ?_
    rintro e U1 ⟨rfl, hb⟩
    have HO := Lib.hid (HO.out.next hb)
    clear hb HQ
    have hq := only_any U1 a2 c2 y 1 (HY.out.below HO.out.b).els hmy
    rw [HG2.out] at hq
    have HQ := Lib.hid hq
    clear hq
    go_wp2_with fail
    refine HQ.out.mono ?_
    rintro e U2 ⟨rfl, hb⟩
    have HO := Lib.hid (HO.out.next hb)
    clear hb HQ
    have hq := only_any U2 a c x 0 (HX.out.below HO.out.b).els hmx
    rw [HG3.out] at hq
    have HQ := Lib.hid hq
    clear hq
    go_wp2_with fail
    refine HQ.out.mono ?_
    rintro e U3 ⟨rfl, hb⟩
    have HO := Lib.hid (HO.out.next hb)
    clear hb HQ
    have hq := only_any U3 a2 c2 y 0 (HY.out.below HO.out.b).els hmy
    rw [HG5.out] at hq
    have HQ := Lib.hid hq
    clear hq
    go_wp2_with fail
    refine HQ.out.mono ?_
    rintro e U5 ⟨rfl, hb⟩
    have HO := Lib.hid (HO.out.next hb)
    clear hb HQ
    have hq := harmless_any U5 a c x (HX.out.below HO.out.b).els (by unfold maxLen; exact hmx)
    rw [HG6.out] at hq
    have HQ := Lib.hid hq
    clear hq
    go_wp2_with fail
    refine HQ.out.mono ?_
    rintro e U6 ⟨rfl, hb⟩
    have HO := Lib.hid (HO.out.next hb)
    clear hb HQ
    have HQ := Lib.hid (HN.out U6 (Nat.le_trans (Bd.low HB0.out) HO.out.b.size))
    go_wp2_with fail
    refine HQ.out.mono ?_
    rintro e w2 ⟨⟨v2, rfl, hv2⟩, hb2⟩
    go_wp2_with fail
    go_ret
    exact ⟨⟨_, rfl, hv2⟩, bNext hb2 HO.out.b⟩
set_option maxHeartbeats 4000000 in
theorem dyad13_3harmsno (w : World) (B : Bd) (hB : B ≤ w.heap.size) (a a2 : Option Addr) (c c2 : Nat) (x y : List Cop) (hx : CopS B w (.slice a x.length c) x) (hy : CopS B w (.slice a2 y.length c2) y) (hl : x.length + y.length + 1 ≤ 2513169434843) (o : Cop) (pa : Option Addr) (pc : Nat) (hp : MonS B w (.slice pa o.p.length pc) o.p) (ho : OkO o) (hf : o.fn = 3) (g1 : onlyC x 1 = false) (g2 : onlyC y 1 = false) (g3 : onlyC x 0 = true) (g4 : harmC y = false) (g5 : onlyC y 0 = false) (h2 : twoC o.fn x y = none) :
    Calls Try.prog 56 #[.slice a x.length c, .slice a2 y.length c2, opV o pa pc] w (RetC B w (dyadC x y o)) := by
  rw [dyadC_j h2 (by unfold ruleY; rw [hf]; simp [*]) (by unfold ruleX; rw [hf]; simp [*]) (by unfold ruleZ; rw [hf]; simp [*])]
  have H2 := Lib.hid h2
  have HF := Lib.hid hf
  clear h2 hf
  obtain ⟨k1, hk1⟩ : ∃ k, knownC x = k := ⟨_, rfl⟩
  obtain ⟨k2, hk2⟩ : ∃ k, knownC y = k := ⟨_, rfl⟩
  have HKX := Lib.hid hk1; have HKY := Lib.hid hk2
  have hi1 := fun n (h : k1 = some n) => known_in hx (hk1.trans h); have hi2 := fun n (h : k2 = some n) => known_in hy (hk2.trans h)
  have HI1 := Lib.hid hi1; have HI2 := Lib.hid hi2
  clear hi1 hi2 hk1 hk2
  have HX := Lib.hid hx; have HY := Lib.hid hy; have HP := Lib.hid hp; have OKO := Lib.hid ho; have HB0 := Lib.hid hB; have HLL := Lib.hid hl
  have HO := Lib.hid (OpBox.new w o (.slice pa o.p.length pc))
  have hmx := hx.le; have hmy := hy.le
  unfold opV
  clear hx hy hp ho hB hl
  go_enter Try.func56, Try.ntmps56
  go_upto_region 1 with fail
  refine gen_worldA (fun W => OpBox w W w.heap.size o (.slice pa o.p.length pc)) HO.out ?_
  rintro W hO
  have HO := Lib.hid hO
  clear hO
  have HQ := Lib.hid (known_any W a c x (HX.out.below HO.out.b).els hmx)
  rw [HKX.out] at HQ
  go_wp2_with fail
  refine HQ.out.mono ?_
  rintro e W1 ⟨rfl, hb⟩
  have HO := Lib.hid (HO.out.next hb)
  clear hb HQ
  have HQ := Lib.hid (known_any W1 a2 c2 y (HY.out.below HO.out.b).els hmy)
  rw [HKY.out] at HQ
  go_wp2_with fail
  refine HQ.out.mono ?_
  rintro e W2 ⟨rfl, hb⟩
  have HO := Lib.hid (HO.out.next hb)
  clear hb HQ
  go_upto_region 3 with fail
  go_cut [27] (fun s27 wx => s27 = .bool (k1.isSome && k2.isSome) ∧ W2 = wx)
  case first =>
    cases k1 with
    | none => (go_wp2_with fail); (go_meet); (exact ⟨rfl, rfl⟩)
    | some p => (cases k2 with | none => (go_wp2_with fail); (go_meet); (exact ⟨rfl, rfl⟩) | some q => (go_wp2_with fail); (go_meet); (exact ⟨rfl, rfl⟩))
  case rest =>
  obtain ⟨rfl, rfl⟩ := hcut
  obtain ⟨bb, hbb⟩ : ∃ bb, (k1.isSome && k2.isSome) = bb := ⟨_, rfl⟩
  rw [hbb]
  have HBB := Lib.hid hbb
  clear hbb
  go_upto_if 27 with fail
  go_cut [11, 12] (fun s11 s12 wx => OpBox w wx w.heap.size o (.slice pa o.p.length pc))
  case first =>
    cases bb with
    | false => (go_wp2_with fail); (go_meet); (exact HO.out)
    | true =>
      have hbb := HBB.out
      cases k1 with
      | none => cases hbb
      | some p =>
       cases k2 with
       | none => cases hbb
       | some q =>
        clear hbb
        obtain ⟨m, e0, hd⟩ : ∃ m e0, dyadF o.fn p q = (m, e0) := ⟨_, _, rfl⟩
        have he : (e0 == 0) = false := by
          have h2 := H2.out
          unfold twoC at h2
          rw [HKX.out, HKY.out] at h2
          dsimp only at h2
          rw [hd] at h2
          rw [beq_eq_false_iff_ne]
          intro h
          rw [if_pos h] at h2
          cases h2
        have HQ := Lib.hid (dyad_at W2 o.fn p q m e0 (HI1.out p rfl) (HI2.out q rfl) hd)
        have x4 := HO.out.c4
        clear hd
        go_wp2_with fail
        refine HQ.out.mono ?_
        rintro e W3 ⟨rfl, nd, rfl⟩
        have HO := Lib.hid (HO.out.next (Below.drewN W2 nd))
        clear HQ x4
        go_wp2_with fail
        go_meet
        exact HO.out
  case rest =>
    clear HO
    have HO := Lib.hid hcut
    clear hcut
    have x4 := HO.out.c4
    rw [HF.out] at x4
    have HG1 := Lib.hid g1; have HG2 := Lib.hid g2; have HG3 := Lib.hid g3; have HG4 := Lib.hid g4; have HG5 := Lib.hid g5
    clear g1 g2 g3 g4 g5
    have hq := only_any wc a c x 1 (HX.out.below HO.out.b).els hmx
    rw [HG1.out] at hq
    have HQ := Lib.hid hq
    clear hq
    go_wp2_with fail
    refine HQ.out.mono ?_
    rintro e U1 ⟨rfl, hb⟩
    have HO := Lib.hid (HO.out.next hb)
    clear hb HQ
    have hq := only_any U1 a2 c2 y 1 (HY.out.below HO.out.b).els hmy
    rw [HG2.out] at hq
    have HQ := Lib.hid hq
    clear hq
    go_wp2_with fail
    refine HQ.out.mono ?_
    rintro e U2 ⟨rfl, hb⟩
    have HO := Lib.hid (HO.out.next hb)
    clear hb HQ
    have hq := only_any U2 a c x 0 (HX.out.below HO.out.b).els hmx
    rw [HG3.out] at hq
    have HQ := Lib.hid hq
    clear hq
    go_wp2_with fail
    refine HQ.out.mono ?_
    rintro e U3 ⟨rfl, hb⟩
    have HO := Lib.hid (HO.out.next hb)
    clear hb HQ
    have hq := harmless_any U3 a2 c2 y (HY.out.below HO.out.b).els (by unfold maxLen; exact hmy)
    rw [HG4.out] at hq
    have HQ := Lib.hid hq
    clear hq
    go_wp2_with fail
    refine HQ.out.mono ?_
    rintro e U4 ⟨rfl, hb⟩
    have HO := Lib.hid (HO.out.next hb)
    clear hb HQ
    have hq := only_any U4 a2 c2 y 0 (HY.out.below HO.out.b).els hmy
    rw [HG5.out] at hq
    have HQ := Lib.hid hq
    clear hq
    go_wp2_with fail
    refine HQ.out.mono ?_
    rintro e U5 ⟨rfl, hb⟩
    have HO := Lib.hid (HO.out.next hb)
    clear hb HQ
    have y0 := HO.out.c0; have y1 := HO.out.c1; have y2 := HO.out.c2; have y3 := HO.out.c3; have y4 := HO.out.c4
    obtain ⟨G1, hG1⟩ : ∃ G, U5.heap.size = G := ⟨_, rfl⟩
    have HQ := Lib.hid (join3_any U5 B G1 (G1 + 1) (Nat.le_trans HB0.out HO.out.b.size) hG1 rfl _ _ x y (HX.out.below HO.out.b) (HY.out.below HO.out.b) o _ (HP.out.below HO.out.b) OKO.out HLL.out)
    skip
    go_wp2_with fail
    refine HQ.out.mono ?_
    rintro e' w2 ⟨⟨v2, rfl, hv2⟩, hb2⟩
    go_wp2_with fail
    go_ret
    exact ⟨⟨_, rfl, hv2⟩, bNext hb2 HO.out.b⟩
set_option maxHeartbeats 4000000 in
theorem dyad13_3harmsharms (w : World) (B : Bd) (hB : B ≤ w.heap.size) (a a2 : Option Addr) (c c2 : Nat) (x y : List Cop) (hx : CopS B w (.slice a x.length c) x) (hy : CopS B w (.slice a2 y.length c2) y) (hl : x.length + y.length + 1 ≤ 2513169434843) (o : Cop) (pa : Option Addr) (pc : Nat) (hp : MonS B w (.slice pa o.p.length pc) o.p) (ho : OkO o) (hf : o.fn = 3) (g1 : onlyC x 1 = false) (g2 : onlyC y 1 = false) (g3 : onlyC x 0 = true) (g4 : harmC y = false) (g5 : onlyC y 0 = true) (g6 : harmC x = false) (h2 : twoC o.fn x y = none) :
    Calls Try.prog 56 #[.slice a x.length c, .slice a2 y.length c2, opV o pa pc] w (RetC B w (dyadC x y o)) := by
  rw [dyadC_j h2 (by unfold ruleY; rw [hf]; simp [*]) (by unfold ruleX; rw [hf]; simp [*]) (by unfold ruleZ; rw [hf]; simp [*])]
  have H2 := Lib.hid h2
  have HF := Lib.hid hf
  clear h2 hf
  obtain ⟨k1, hk1⟩ : ∃ k, knownC x = k := ⟨_, rfl⟩
  obtain ⟨k2, hk2⟩ : ∃ k, knownC y = k := ⟨_, rfl⟩
  have HKX := Lib.hid hk1; have HKY := Lib.hid hk2
  have hi1 := fun n (h : k1 = some n) => known_in hx (hk1.trans h); have hi2 := fun n (h : k2 = some n) => known_in hy (hk2.trans h)
  have HI1 := Lib.hid hi1; have HI2 := Lib.hid hi2
  clear hi1 hi2 hk1 hk2
  have HX := Lib.hid hx; have HY := Lib.hid hy; have HP := Lib.hid hp; have OKO := Lib.hid ho; have HB0 := Lib.hid hB; have HLL := Lib.hid hl
  have HO := Lib.hid (OpBox.new w o (.slice pa o.p.length pc))
  have hmx := hx.le; have hmy := hy.le
  unfold opV
  clear hx hy hp ho hB hl
  go_enter Try.func56, Try.ntmps56
  go_upto_region 1 with fail
  refine gen_worldA (fun W => OpBox w W w.heap.size o (.slice pa o.p.length pc)) HO.out ?_
  rintro W hO
  have HO := Lib.hid hO
  clear hO
  have HQ := Lib.hid (known_any W a c x (HX.out.below HO.out.b).els hmx)
  rw [HKX.out] at HQ
  go_wp2_with fail
  refine HQ.out.mono ?_
  rintro e W1 ⟨rfl, hb⟩
  have HO := Lib.hid (HO.out.next hb)
  clear hb HQ
  have HQ := Lib.hid (known_any W1 a2 c2 y (HY.out.below HO.out.b).els hmy)
  rw [HKY.out] at HQ
  go_wp2_with fail
  refine HQ.out.mono ?_
  rintro e W2 ⟨rfl, hb⟩
  have HO := Lib.hid (HO.out.next hb)
  clear hb HQ
  go_upto_region 3 with fail
  go_cut [27] (fun s27 wx => s27 = .bool (k1.isSome && k2.isSome) ∧ W2 = wx)
  case first =>
    cases k1 with
    | none => (go_wp2_with fail); (go_meet); (exact ⟨rfl, rfl⟩)
    | some p => (cases k2 with | none => (go_wp2_with fail); (go_meet); (exact ⟨rfl, rfl⟩) | some q => (go_wp2_with fail); (go_meet); (exact ⟨rfl, rfl⟩))
  case rest =>
  obtain ⟨rfl, rfl⟩ := hcut
  obtain ⟨bb, hbb⟩ : ∃ bb, (k1.isSome && k2.isSome) = bb := ⟨_, rfl⟩
  rw [hbb]
  have HBB := Lib.hid hbb
  clear hbb
  go_upto_if 27 with fail
  go_cut [11, 12] (fun s11 s12 wx => OpBox w wx w.heap.size o (.slice pa o.p.length pc))
  case first =>
    cases bb with
    | false => (go_wp2_with fail); (go_meet); (exact HO.out)
    | true =>
      have hbb := HBB.out
      cases k1 with
      | none => cases hbb
      | some p =>
       cases k2 with
       | none => cases hbb
       | some q =>
        clear hbb
        obtain ⟨m, e0, hd⟩ : ∃ m e0, dyadF o.fn p q = (m, e0) := ⟨_, _, rfl⟩
        have he : (e0 == 0) = false := by
          have h2 := H2.out
          unfold twoC at h2
          rw [HKX.out, HKY.out] at h2
          dsimp only at h2
          rw [hd] at h2
          rw [beq_eq_false_iff_ne]
          intro h
          rw [if_pos h] at h2
          cases h2
        have HQ := Lib.hid (dyad_at W2 o.fn p q m e0 (HI1.out p rfl) (HI2.out q rfl) hd)
        have x4 := HO.out.c4
        clear hd
        go_wp2_with fail
        refine HQ.out.mono ?_
        rintro e W3 ⟨rfl, nd, rfl⟩
        have HO := Lib.hid (HO.out.next (Below.drewN W2 nd))
        clear HQ x4
        go_wp2_with fail
        go_meet
        exact HO.out
  case rest =>
    clear HO
    have HO := Lib.hid hcut
    clear hcut
    have x4 := HO.out.c4
    rw [HF.out] at x4
    have HG1 := Lib.hid g1; have HG2 := Lib.hid g2; have HG3 := Lib.hid g3; have HG4 := Lib.hid g4; have HG5 := Lib.hid g5; have HG6 := Lib.hid g6
    clear g1 g2 g3 g4 g5 g6
    have hq := only_any wc a c x 1 (HX.out.below HO.out.b).els hmx
    rw [HG1.out] at hq
    have HQ := Lib.hid hq
    clear hq
    go_wp2_with fail
    refine HQ.out.mono ?_
    rintro e U1 ⟨rfl, hb⟩
    have HO := Lib.hid (HO.out.next hb)
    clear hb HQ
    have hq := only_any U1 a2 c2 y 1 (HY.out.below HO.out.b).els hmy
    rw [HG2.out] at hq
    have HQ := Lib.hid hq
    clear hq
    go_wp2_with fail
    refine HQ.out.mono ?_
    rintro e U2 ⟨rfl, hb⟩
    have HO := Lib.hid (HO.out.next hb)
    clear hb HQ
    have hq := only_any U2 a c x 0 (HX.out.below HO.out.b).els hmx
    rw [HG3.out] at hq
    have HQ := Lib.hid hq
    clear hq
    go_wp2_with fail
    refine HQ.out.mono ?_
    rintro e U3 ⟨rfl, hb⟩
    have HO := Lib.hid (HO.out.next hb)
    clear hb HQ
    have hq := harmless_any U3 a2 c2 y (HY.out.below HO.out.b).els (by unfold maxLen; exact hmy)
    rw [HG4.out] at hq
    have HQ := Lib.hid hq
    clear hq
    go_wp2_with fail
    refine HQ.out.mono ?_
    rintro e U4 ⟨rfl, hb⟩
    have HO := Lib.hid (HO.out.next hb)
    clear hb HQ
    have hq := only_any U4 a2 c2 y 0 (HY.out.below HO.out.b).els hmy
    rw [HG5.out] at hq
    have HQ := Lib.hid hq
    clear hq
    go_wp2_with fail
    refine HQ.out.mono ?_
    rintro e U5 ⟨rfl, hb⟩
    have HO := Lib.hid (HO.out.next hb)
    clear hb HQ
    have hq := harmless_any U5 a c x (HX.out.below HO.out.b).els (by unfold maxLen; exact hmx)
    rw [HG6.out] at hq
    have HQ := Lib.hid hq
    clear hq
    go_wp2_with fail
    refine HQ.out.mono ?_
    rintro e U6 ⟨rfl, hb⟩
    have HO := Lib.hid (HO.out.next hb)
    clear hb HQ
    have y0 := HO.out.c0; have y1 := HO.out.c1; have y2 := HO.out.c2; have y3 := HO.out.c3; have y4 := HO.out.c4
    obtain ⟨G1, hG1⟩ : ∃ G, U6.heap.size = G := ⟨_, rfl⟩
    have HQ := Lib.hid (join3_any U6 B G1 (G1 + 1) (Nat.le_trans HB0.out HO.out.b.size) hG1 rfl _ _ x y (HX.out.below HO.out.b) (HY.out.below HO.out.b) o _ (HP.out.below HO.out.b) OKO.out HLL.out)
    skip
    go_wp2_with fail
    refine HQ.out.mono ?_
    rintro e' w2 ⟨⟨v2, rfl, hv2⟩, hb2⟩
    go_wp2_with fail
    go_ret
    exact ⟨⟨_, rfl, hv2⟩, bNext hb2 HO.out.b⟩
set_option maxHeartbeats 4000000 in
theorem dyad13_3harmsok (w : World) (B : Bd) (hB : B ≤ w.heap.size) (a a2 : Option Addr) (c c2 : Nat) (x y : List Cop) (hx : CopS B w (.slice a x.length c) x) (hy : CopS B w (.slice a2 y.length c2) y) (hl : x.length + y.length + 1 ≤ 2513169434843) (o : Cop) (pa : Option Addr) (pc : Nat) (hp : MonS B w (.slice pa o.p.length pc) o.p) (ho : OkO o) (hf : o.fn = 3) (g1 : onlyC x 1 = false) (g2 : onlyC y 1 = false) (g3 : onlyC x 0 = true) (g4 : harmC y = false) (g5 : onlyC y 0 = true) (g6 : harmC x = true) (h2 : twoC o.fn x y = none) :
    Calls Try.prog 56 #[.slice a x.length c, .slice a2 y.length c2, opV o pa pc] w (RetC B w (dyadC x y o)) := by
  rw [dyadC_z h2 (by unfold ruleY; rw [hf]; simp [*]) (by unfold ruleX; rw [hf]; simp [*]) (by unfold ruleZ; rw [hf]; simp [*])]
  have H2 := Lib.hid h2
  have HF := Lib.hid hf
  clear h2 hf
  obtain ⟨k1, hk1⟩ : ∃ k, knownC x = k := ⟨_, rfl⟩
  obtain ⟨k2, hk2⟩ : ∃ k, knownC y = k := ⟨_, rfl⟩
  have HKX := Lib.hid hk1; have HKY := Lib.hid hk2
  have hi1 := fun n (h : k1 = some n) => known_in hx (hk1.trans h); have hi2 := fun n (h : k2 = some n) => known_in hy (hk2.trans h)
  have HI1 := Lib.hid hi1; have HI2 := Lib.hid hi2
  clear hi1 hi2 hk1 hk2
  have HX := Lib.hid hx; have HY := Lib.hid hy; have HP := Lib.hid hp; have OKO := Lib.hid ho; have HB0 := Lib.hid hB; have HLL := Lib.hid hl
  have HO := Lib.hid (OpBox.new w o (.slice pa o.p.length pc))
  have hmx := hx.le; have hmy := hy.le
  unfold opV
  clear hx hy hp ho hB hl
  go_enter Try.func56, Try.ntmps56
  go_upto_region 1 with fail
  refine gen_worldA (fun W => OpBox w W w.heap.size o (.slice pa o.p.length pc)) HO.out ?_
  rintro W hO
  have HO := Lib.hid hO
  clear hO
  have HQ := Lib.hid (known_any W a c x (HX.out.below HO.out.b).els hmx)
  rw [HKX.out] at HQ
  go_wp2_with fail
  refine HQ.out.mono ?_
  rintro e W1 ⟨rfl, hb⟩
  have HO := Lib.hid (HO.out.next hb)
  clear hb HQ
  have HQ := Lib.hid (known_any W1 a2 c2 y (HY.out.below HO.out.b).els hmy)
  rw [HKY.out] at HQ
  go_wp2_with fail
  refine HQ.out.mono ?_
  rintro e W2 ⟨rfl, hb⟩
  have HO := Lib.hid (HO.out.next hb)
  clear hb HQ
  go_upto_region 3 with fail
  go_cut [27] (fun s27 wx => s27 = .bool (k1.isSome && k2.isSome) ∧ W2 = wx)
  case first =>
    cases k1 with
    | none => (go_wp2_with fail); (go_meet); (exact ⟨rfl, rfl⟩)
    | some p => (cases k2 with | none => (go_wp2_with fail); (go_meet); (exact ⟨rfl, rfl⟩) | some q => (go_wp2_with fail); (go_meet); (exact ⟨rfl, rfl⟩))
  case rest =>
  obtain ⟨rfl, rfl⟩ := hcut
  obtain ⟨bb, hbb⟩ : ∃ bb, (k1.isSome && k2.isSome) = bb := ⟨_, rfl⟩
  rw [hbb]
  have HBB := Lib.hid hbb
  clear hbb
  go_upto_if 27 with fail
  go_cut [11, 12] (fun s11 s12 wx => OpBox w wx w.heap.size o (.slice pa o.p.length pc))
  case first =>
    cases bb with
    | false => (go_wp2_with fail); (go_meet); (exact HO.out)
    | true =>
      have hbb := HBB.out
      cases k1 with
      | none => cases hbb
      | some p =>
       cases k2 with
       | none => cases hbb
       | some q =>
        clear hbb
        obtain ⟨m, e0, hd⟩ : ∃ m e0, dyadF o.fn p q = (m, e0) := ⟨_, _, rfl⟩
        have he : (e0 == 0) = false := by
          have h2 := H2.out
          unfold twoC at h2
          rw [HKX.out, HKY.out] at h2
          dsimp only at h2
          rw [hd] at h2
          rw [beq_eq_false_iff_ne]
          intro h
          rw [if_pos h] at h2
          cases h2
        have HQ := Lib.hid (dyad_at W2 o.fn p q m e0 (HI1.out p rfl) (HI2.out q rfl) hd)
        have x4 := HO.out.c4
        clear hd
        go_wp2_with fail
        refine HQ.out.mono ?_
        rintro e W3 ⟨rfl, nd, rfl⟩
        have HO := Lib.hid (HO.out.next (Below.drewN W2 nd))
        clear HQ x4
        go_wp2_with fail
        go_meet
        exact HO.out
  case rest =>
    clear HO
    have HO := Lib.hid hcut
    clear hcut
    have x4 := HO.out.c4
    rw [HF.out] at x4
    have HG1 := Lib.hid g1; have HG2 := Lib.hid g2; have HG3 := Lib.hid g3; have HG4 := Lib.hid g4; have HG5 := Lib.hid g5; have HG6 := Lib.hid g6
    have HN := Lib.hid (fun W hL => numC_any W B hL 0 (by unfold I64; omega))
    clear g1 g2 g3 g4 g5 g6
    have hq := only_any wc a c x 1 (HX.out.below HO.out.b).els hmx
    rw [HG1.out] at hq
    have HQ := Lib.hid hq
    clear hq
    go_wp2_with fail
    refine HQ.out.mono ?_
    rintro e U1 ⟨rfl, hb⟩
    have HO := Lib.hid (HO.out.next hb)
    clear hb HQ
    have hq := only_any U1 a2 c2 y 1 (HY.out.below HO.out.b).els hmy
    rw [HG2.out] at hq
    have HQ := Lib.hid hq
    clear hq
    go_wp2_with fail
    refine HQ.out.mono ?_
    rintro e U2 ⟨rfl, hb⟩
    have HO := Lib.hid (HO.out.next hb)
    clear hb HQ
    have hq := only_any U2 a c x 0 (HX.out.below HO.out.b).els hmx
    rw [HG3.out] at hq
    have HQ := Lib.hid hq
    clear hq
    go_wp2_with fail
    refine HQ.out.mono ?_
    rintro e U3 ⟨rfl, hb⟩
    have HO := Lib.hid (HO.out.next hb)
    clear hb HQ
    have hq := harmless_any U3 a2 c2 y (HY.out.below HO.out.b).els (by unfold maxLen; exact hmy)
    rw [HG4.out] at hq
    have HQ := Lib.hid hq
    clear hq
    go_wp2_with fail
    refine HQ.out.mono ?_
    rintro e U4 ⟨rfl, hb⟩
    have HO := Lib.hid (HO.out.next hb)
    clear hb HQ
    have hq := only_any U4 a2 c2 y 0 (HY.out.below HO.out.b).els hmy
    rw [HG5.out] at hq
    have HQ := Lib.hid hq
    clear hq
    go_wp2_with fail
    refine HQ.out.mono ?_
    rintro e U5 ⟨rfl, hb⟩
    have HO := Lib.hid (HO.out.next hb)
    clear hb HQ
    have hq := harmless_any U5 a c x (HX.out.below HO.out.b).els (by unfold maxLen; exact hmx)
    rw [HG6.out] at hq
    have HQ := Lib.hid hq
    clear hq
    go_wp2_with fail
    refine HQ.out.mono ?_
    rintro e U6 ⟨rfl, hb⟩
    have HO := Lib.hid (HO.out.next hb)
    clear hb HQ
    have HQ := Lib.hid (HN.out U6 (Nat.le_trans (Bd.low HB0.out) HO.out.b.size))
    go_wp2_with fail
    refine HQ.out.mono ?_
    rintro e w2 ⟨⟨v2, rfl, hv2⟩, hb2⟩
    go_wp2_with fail
    go_ret
    exact ⟨⟨_, rfl, hv2⟩, bNext hb2 HO.out.b⟩
set_option maxHeartbeats 4000000 in
theorem dyad13_other (w : World) (B : Bd) (hB : B ≤ w.heap.size) (a a2 : Option Addr) (c c2 : Nat) (x y : List Cop) (hx : CopS B w (.slice a x.length c) x) (hy : CopS B w (.slice a2 y.length c2) y) (hl : x.length + y.length + 1 ≤ 2513169434843) (o : Cop) (pa : Option Addr) (pc : Nat) (hp : MonS B w (.slice pa o.p.length pc) o.p) (ho : OkO o) (f1 : o.fn ≠ 1) (f2 : o.fn ≠ 2) (f3 : o.fn ≠ 3) (f4 : o.fn ≠ 4) (f5 : o.fn ≠ 17) (h2 : twoC o.fn x y = none) :
    Calls Try.prog 56 #[.slice a x.length c, .slice a2 y.length c2, opV o pa pc] w (RetC B w (dyadC x y o)) := by
  obtain ⟨r1, r2, r3⟩ := rules_other (x := x) (y := y) f1 f2 f3 f4 f5
  rw [dyadC_j h2 r1 r2 r3]
  have n1 : (o.fn == 1) = false := by rw [beq_eq_false_iff_ne]; exact f1
  have n2 : (o.fn == 2) = false := by rw [beq_eq_false_iff_ne]; exact f2
  have n3 : (o.fn == 3) = false := by rw [beq_eq_false_iff_ne]; exact f3
  have n4 : (o.fn == 4) = false := by rw [beq_eq_false_iff_ne]; exact f4
  have n5 : (o.fn == 17) = false := by rw [beq_eq_false_iff_ne]; exact f5
  clear f1 f2 f3 f4 f5 r1 r2 r3
  have H2 := Lib.hid h2
  clear h2
  obtain ⟨k1, hk1⟩ : ∃ k, knownC x = k := ⟨_, rfl⟩
  obtain ⟨k2, hk2⟩ : ∃ k, knownC y = k := ⟨_, rfl⟩
  have HKX := Lib.hid hk1; have HKY := Lib.hid hk2
  have hi1 := fun n (h : k1 = some n) => known_in hx (hk1.trans h); have hi2 := fun n (h : k2 = some n) => known_in hy (hk2.trans h)
  have HI1 := Lib.hid hi1; have HI2 := Lib.hid hi2
  clear hi1 hi2 hk1 hk2
  have HX := Lib.hid hx; have HY := Lib.hid hy; have HP := Lib.hid hp; have OKO := Lib.hid ho; have HB0 := Lib.hid hB; have HLL := Lib.hid hl
  have HO := Lib.hid (OpBox.new w o (.slice pa o.p.length pc))
  have hmx := hx.le; have hmy := hy.le
  unfold opV
  clear hx hy hp ho hB hl
  go_enter Try.func56, Try.ntmps56
  go_upto_region 1 with fail
  refine gen_worldA (fun W => OpBox w W w.heap.size o (.slice pa o.p.length pc)) HO.out ?_
  rintro W hO
  have HO := Lib.hid hO
  clear hO
  have HQ := Lib.hid (known_any W a c x (HX.out.below HO.out.b).els hmx)
  rw [HKX.out] at HQ
  go_wp2_with fail
  refine HQ.out.mono ?_
  rintro e W1 ⟨rfl, hb⟩
  have HO := Lib.hid (HO.out.next hb)
  clear hb HQ
  have HQ := Lib.hid (known_any W1 a2 c2 y (HY.out.below HO.out.b).els hmy)
  rw [HKY.out] at HQ
  go_wp2_with fail
  refine HQ.out.mono ?_
  rintro e W2 ⟨rfl, hb⟩
  have HO := Lib.hid (HO.out.next hb)
  clear hb HQ
  go_upto_region 3 with fail
  go_cut [27] (fun s27 wx => s27 = .bool (k1.isSome && k2.isSome) ∧ W2 = wx)
  case first =>
    cases k1 with
    | none => (go_wp2_with fail); (go_meet); (exact ⟨rfl, rfl⟩)
    | some p => (cases k2 with | none => (go_wp2_with fail); (go_meet); (exact ⟨rfl, rfl⟩) | some q => (go_wp2_with fail); (go_meet); (exact ⟨rfl, rfl⟩))
  case rest =>
  obtain ⟨rfl, rfl⟩ := hcut
  obtain ⟨bb, hbb⟩ : ∃ bb, (k1.isSome && k2.isSome) = bb := ⟨_, rfl⟩
  rw [hbb]
  have HBB := Lib.hid hbb
  clear hbb
  go_upto_if 27 with fail
  go_cut [11, 12] (fun s11 s12 wx => OpBox w wx w.heap.size o (.slice pa o.p.length pc))
  case first =>
    cases bb with
    | false => (go_wp2_with fail); (go_meet); (exact HO.out)
    | true =>
      have hbb := HBB.out
      cases k1 with
      | none => cases hbb
      | some p =>
       cases k2 with
       | none => cases hbb
       | some q =>
        clear hbb
        obtain ⟨m, e0, hd⟩ : ∃ m e0, dyadF o.fn p q = (m, e0) := ⟨_, _, rfl⟩
        have he : (e0 == 0) = false := by
          have h2 := H2.out
          unfold twoC at h2
          rw [HKX.out, HKY.out] at h2
          dsimp only at h2
          rw [hd] at h2
          rw [beq_eq_false_iff_ne]
          intro h
          rw [if_pos h] at h2
          cases h2
        have HQ := Lib.hid (dyad_at W2 o.fn p q m e0 (HI1.out p rfl) (HI2.out q rfl) hd)
        have x4 := HO.out.c4
        clear hd
        go_wp2_with fail
        refine HQ.out.mono ?_
        rintro e W3 ⟨rfl, nd, rfl⟩
        have HO := Lib.hid (HO.out.next (Below.drewN W2 nd))
        clear HQ x4
        go_wp2_with fail
        go_meet
        exact HO.out
  case rest =>
    clear HO
    have HO := Lib.hid hcut
    clear hcut
    have x4 := HO.out.c4
    have y0 := HO.out.c0; have y1 := HO.out.c1; have y2 := HO.out.c2; have y3 := HO.out.c3; have y4 := HO.out.c4
    obtain ⟨G1, hG1⟩ : ∃ G, wc.heap.size = G := ⟨_, rfl⟩
    have HQ := Lib.hid (join3_any wc B G1 (G1 + 1) (Nat.le_trans HB0.out HO.out.b.size) hG1 rfl _ _ x y (HX.out.below HO.out.b) (HY.out.below HO.out.b) o _ (HP.out.below HO.out.b) OKO.out HLL.out)
    skip
    go_wp2_with fail
    refine HQ.out.mono ?_
    rintro e' w2 ⟨⟨v2, rfl, hv2⟩, hb2⟩
    go_wp2_with fail
    go_ret
    exact ⟨⟨_, rfl, hv2⟩, bNext hb2 HO.out.b⟩
theorem dyad13_any (w : World) (B : Bd) (hB : B ≤ w.heap.size) (a a2 : Option Addr) (c c2 : Nat) (x y : List Cop) (hx : CopS B w (.slice a x.length c) x) (hy : CopS B w (.slice a2 y.length c2) y) (hl : x.length + y.length + 1 ≤ 2513169434843) (o : Cop) (pa : Option Addr) (pc : Nat) (hp : MonS B w (.slice pa o.p.length pc) o.p) (ho : OkO o) :
    Calls Try.prog 56 #[.slice a x.length c, .slice a2 y.length c2, opV o pa pc] w (RetC B w (dyadC x y o)) := by
  cases h2 : twoC o.fn x y with
  | some m =>
    have h3 := h2
    unfold twoC at h3
    cases hkx : knownC x with
    | none => rw [hkx] at h3; cases h3
    | some p =>
      cases hky : knownC y with
      | none => rw [hkx, hky] at h3; cases h3
      | some q =>
        rw [hkx, hky] at h3
        dsimp only at h3
        split at h3
        · rename_i h0
          injection h3 with h3
          exact dyad13_num w B hB a a2 c c2 x y hx hy hl o pa pc hp ho p q m hkx hky (by rw [← h3, ← h0])
        · cases h3
  | none =>
    by_cases f1 : o.fn = 1
    · cases g1 : onlyC x 0 with
      | true => exact dyad13_1y w B hB a a2 c c2 x y hx hy hl o pa pc hp ho f1 g1 h2
      | false => cases g2 : onlyC y 0 with
        | true => exact dyad13_1x w B hB a a2 c c2 x y hx hy hl o pa pc hp ho f1 g1 g2 h2
        | false => exact dyad13_1j w B hB a a2 c c2 x y hx hy hl o pa pc hp ho f1 g1 g2 h2
    by_cases f2 : o.fn = 2
    · cases g2 : onlyC y 0 with
      | true => exact dyad13_2x w B hB a a2 c c2 x y hx hy hl o pa pc hp ho f2 g2 h2
      | false => exact dyad13_2j w B hB a a2 c c2 x y hx hy hl o pa pc hp ho f2 g2 h2
    by_cases f4 : o.fn = 4
    · cases g2 : onlyC y 1 with
      | true => exact dyad13_4x w B hB a a2 c c2 x y hx hy hl o pa pc hp ho f4 g2 h2
      | false => exact dyad13_4j w B hB a a2 c c2 x y hx hy hl o pa pc hp ho f4 g2 h2
    by_cases f5 : o.fn = 17
    · cases g2 : onlyC y 1 with
      | true => exact dyad13_17x w B hB a a2 c c2 x y hx hy hl o pa pc hp ho f5 g2 h2
      | false => exact dyad13_17j w B hB a a2 c c2 x y hx hy hl o pa pc hp ho f5 g2 h2
    by_cases f3 : o.fn = 3
    · cases g1 : onlyC x 1 with
      | true => exact dyad13_3y w B hB a a2 c c2 x y hx hy hl o pa pc hp ho f3 g1 h2
      | false =>
        cases g2 : onlyC y 1 with
        | true => exact dyad13_3x w B hB a a2 c c2 x y hx hy hl o pa pc hp ho f3 g1 g2 h2
        | false =>
          cases g3 : onlyC x 0 with
          | true =>
            cases g4 : harmC y with
            | true => exact dyad13_3z1 w B hB a a2 c c2 x y hx hy hl o pa pc hp ho f3 g1 g2 g3 g4 h2
            | false =>
              cases g5 : onlyC y 0 with
              | false => exact dyad13_3harmsno w B hB a a2 c c2 x y hx hy hl o pa pc hp ho f3 g1 g2 g3 g4 g5 h2
              | true => cases g6 : harmC x with
                | true => exact dyad13_3harmsok w B hB a a2 c c2 x y hx hy hl o pa pc hp ho f3 g1 g2 g3 g4 g5 g6 h2
                | false => exact dyad13_3harmsharms w B hB a a2 c c2 x y hx hy hl o pa pc hp ho f3 g1 g2 g3 g4 g5 g6 h2
          | false =>
            cases g5 : onlyC y 0 with
            | false => exact dyad13_3nono w B hB a a2 c c2 x y hx hy hl o pa pc hp ho f3 g1 g2 g3 g5 h2
            | true => cases g6 : harmC x with
              | true => exact dyad13_3nook w B hB a a2 c c2 x y hx hy hl o pa pc hp ho f3 g1 g2 g3 g5 g6 h2
              | false => exact dyad13_3noharms w B hB a a2 c c2 x y hx hy hl o pa pc hp ho f3 g1 g2 g3 g5 g6 h2
    exact dyad13_other w B hB a a2 c c2 x y hx hy hl o pa pc hp ho f1 f2 f3 f4 f5 h2
end Go.Proofs.Ytmlfeocdcjhhaaa
