import Derived.Test.YtmlfeocdcjhhaaaPG6
namespace Go.Proofs.Ytmlfeocdcjhhaaa
set_option maxRecDepth 100000
open Go.RowKit Go.ChangeShapes Go.WideShapes Go.Deep
set_option linter.unusedVariables false
set_option linter.unusedSimpArgs false

/-! Cores, in plain lists and in memory. -/
structure Buf where
  sides : List (List Mono)
  input : Int
structure Cop where
  how : Int
  k : Int
  n : Int
  p : List Mono
  fn : Int
structure Stp where
  how : Int
  buf : Int
  pos : List Mono
  loops : List (List Mono)
  fn : Int
  ops : List Cop
structure Cor where
  vars : Int
  bufs : List Buf
  steps : List Stp
  outs : List Int
def I64 (x : Int) : Prop := -9223372036854775808 ≤ x ∧ x ≤ 9223372036854775807
def U8 (x : Int) : Prop := 0 ≤ x ∧ x ≤ 255
theorem Rep.Sl.form0 {α : Type} {R : Rep α} {w : World} {v : Value} {xs : List α} (h : R.Sl w v xs) : ∃ a c, v = .slice a xs.length c := by
  obtain ⟨a, c, e, _⟩ := h
  exact ⟨a, c, e⟩
def bufRep : Rep Buf where
  n := 2
  At w cs b := ∃ v, cs = [v, .int .i64 b.input] ∧ polyRep.Sl w v b.sides ∧ I64 b.input
  len := by rintro w cs b ⟨v, rfl, _⟩; rfl
  keep := by rintro w w' cs b ⟨v, e, h, h2⟩ hb; exact ⟨v, e, h.below _ hb (Nat.le_refl _), h2⟩
  one := by
    rintro w cs b ⟨v, rfl, h, _⟩ u hu
    obtain ⟨a, c, rfl⟩ := h.form0
    simp at hu
    rcases hu with rfl | rfl <;> rfl
def copRep : Rep Cop where
  n := 5
  At w cs o := ∃ v, cs = [.int .i64 o.how, .int .i64 o.k, .int .i64 o.n, v, .int .u8 o.fn] ∧ monoRep.Sl w v o.p ∧ I64 o.how ∧ I64 o.k ∧ I64 o.n ∧ U8 o.fn
  len := by rintro w cs b ⟨v, rfl, _⟩; rfl
  keep := by rintro w w' cs b ⟨v, e, h, h2⟩ hb; exact ⟨v, e, h.below _ hb (Nat.le_refl _), h2⟩
  one := by
    rintro w cs b ⟨v, rfl, h, _⟩ u hu
    obtain ⟨a, c, rfl⟩ := h.form0
    simp at hu
    rcases hu with rfl | rfl | rfl | rfl | rfl <;> rfl
def stpRep : Rep Stp where
  n := 6
  At w cs s := ∃ v0 v1 v2, cs = [.int .i64 s.how, .int .i64 s.buf, v0, v1, .int .u8 s.fn, v2] ∧ monoRep.Sl w v0 s.pos ∧ polyRep.Sl w v1 s.loops ∧ copRep.Sl w v2 s.ops ∧ I64 s.how ∧ I64 s.buf ∧ U8 s.fn
  len := by rintro w cs b ⟨v0, v1, v2, rfl, _⟩; rfl
  keep := by rintro w w' cs b ⟨v0, v1, v2, e, h0, h1, h2, h3⟩ hb; exact ⟨v0, v1, v2, e, h0.below _ hb (Nat.le_refl _), h1.below _ hb (Nat.le_refl _), h2.below _ hb (Nat.le_refl _), h3⟩
  one := by
    rintro w cs b ⟨v0, v1, v2, rfl, h0, h1, h2, _⟩ u hu
    obtain ⟨a, c, rfl⟩ := h0.form0
    obtain ⟨a, c, rfl⟩ := h1.form0
    obtain ⟨a, c, rfl⟩ := h2.form0
    simp at hu
    rcases hu with rfl | rfl | rfl | rfl | rfl | rfl <;> rfl
theorem opens_buf : Opens 52 bufRep := ⟨by kernel_rfl, fun {H enc w base spare held m cs y} h => by
  obtain ⟨ys, n, _, _, hlen, hyl, hf⟩ := DataW.trod_struct Try.underlying52 h
  have hl : cs.length = 2 := hlen.trans (by kernel_rfl)
  match cs, hl with
  | [c0, c1], _ =>
    obtain ⟨x0, e0⟩ := field_of opens_polys ((hf 0 _ rfl).trans (List.getElem?_eq_getElem (by rw [hyl]; decide)))
    obtain ⟨x1, e1, w1⟩ := field_int Try.underlying3 (by kernel_rfl) ((hf 1 _ rfl).trans (List.getElem?_eq_getElem (by rw [hyl]; decide)))
    obtain ⟨v, e0, hs⟩ := e0
    have f0 : [c0] = [v] := e0
    cases f0; cases e1
    exact ⟨⟨x0, x1⟩, c0, rfl, hs, bounds_i64 w1⟩⟩
theorem opens_bufs : Opens 29 bufRep.slice := opens_slice Try.underlying29 (by kernel_rfl) (by rw [show Try.prog.cellsOf 52 = 2 from by kernel_rfl]; decide) opens_buf
theorem opens_cop : Opens 44 copRep := ⟨by kernel_rfl, fun {H enc w base spare held m cs y} h => by
  obtain ⟨ys, n, _, _, hlen, hyl, hf⟩ := DataW.trod_struct Try.underlying44 h
  have hl : cs.length = 5 := hlen.trans (by kernel_rfl)
  match cs, hl with
  | [c0, c1, c2, c3, c4], _ =>
    obtain ⟨x0, e0, w0⟩ := field_int Try.underlying3 (by kernel_rfl) ((hf 0 _ rfl).trans (List.getElem?_eq_getElem (by rw [hyl]; decide)))
    obtain ⟨x1, e1, w1⟩ := field_int Try.underlying3 (by kernel_rfl) ((hf 1 _ rfl).trans (List.getElem?_eq_getElem (by rw [hyl]; decide)))
    obtain ⟨x2, e2, w2⟩ := field_int Try.underlying2 (by kernel_rfl) ((hf 2 _ rfl).trans (List.getElem?_eq_getElem (by rw [hyl]; decide)))
    obtain ⟨x3, e3⟩ := field_of opens_poly ((hf 3 _ rfl).trans (List.getElem?_eq_getElem (by rw [hyl]; decide)))
    obtain ⟨x4, e4, w4⟩ := field_int Try.underlying40 (by kernel_rfl) ((hf 4 _ rfl).trans (List.getElem?_eq_getElem (by rw [hyl]; decide)))
    obtain ⟨v, e3, hs⟩ := e3
    have f3 : [c3] = [v] := e3
    cases e0; cases e1; cases e2; cases f3; cases e4
    exact ⟨⟨x0, x1, x2, x3, x4⟩, c3, rfl, hs, bounds_i64 w0, bounds_i64 w1, bounds_i64 w2, bounds_u8 w4⟩⟩
theorem opens_cops : Opens 22 copRep.slice := opens_slice Try.underlying22 (by kernel_rfl) (by rw [show Try.prog.cellsOf 44 = 5 from by kernel_rfl]; decide) opens_cop
theorem opens_stp : Opens 42 stpRep := ⟨by kernel_rfl, fun {H enc w base spare held m cs y} h => by
  obtain ⟨ys, n, _, _, hlen, hyl, hf⟩ := DataW.trod_struct Try.underlying42 h
  have hl : cs.length = 6 := hlen.trans (by kernel_rfl)
  match cs, hl with
  | [c0, c1, c2, c3, c4, c5], _ =>
    obtain ⟨x0, e0, w0⟩ := field_int Try.underlying3 (by kernel_rfl) ((hf 0 _ rfl).trans (List.getElem?_eq_getElem (by rw [hyl]; decide)))
    obtain ⟨x1, e1, w1⟩ := field_int Try.underlying3 (by kernel_rfl) ((hf 1 _ rfl).trans (List.getElem?_eq_getElem (by rw [hyl]; decide)))
    obtain ⟨x2, e2⟩ := field_of opens_poly ((hf 2 _ rfl).trans (List.getElem?_eq_getElem (by rw [hyl]; decide)))
    obtain ⟨x3, e3⟩ := field_of opens_polys ((hf 3 _ rfl).trans (List.getElem?_eq_getElem (by rw [hyl]; decide)))
    obtain ⟨x4, e4, w4⟩ := field_int Try.underlying40 (by kernel_rfl) ((hf 4 _ rfl).trans (List.getElem?_eq_getElem (by rw [hyl]; decide)))
    obtain ⟨x5, e5⟩ := field_of opens_cops ((hf 5 _ rfl).trans (List.getElem?_eq_getElem (by rw [hyl]; decide)))
    obtain ⟨v2, e2, h2⟩ := e2
    obtain ⟨v3, e3, h3⟩ := e3
    obtain ⟨v5, e5, h5⟩ := e5
    have f2 : [c2] = [v2] := e2
    have f3 : [c3] = [v3] := e3
    have f5 : [c5] = [v5] := e5
    cases e0; cases e1; cases f2; cases f3; cases e4; cases f5
    exact ⟨⟨x0, x1, x2, x3, x4, x5⟩, c2, c3, c5, rfl, h2, h3, h5, bounds_i64 w0, bounds_i64 w1, bounds_u8 w4⟩⟩
theorem opens_stps : Opens 30 stpRep.slice := opens_slice Try.underlying30 (by kernel_rfl) (by rw [show Try.prog.cellsOf 42 = 6 from by kernel_rfl]; decide) opens_stp
theorem opens_ints : Opens 31 (Rep.int .i64).slice := opens_slice Try.underlying31 (by kernel_rfl) (by rw [show Try.prog.cellsOf 3 = 1 from by kernel_rfl]; decide) (opens_int Try.underlying3 (by kernel_rfl))
/-- a core by value -/
def CorAt (w : World) (vb vs vo : Value) (c : Cor) : Prop := bufRep.Sl w vb c.bufs ∧ stpRep.Sl w vs c.steps ∧ (Rep.int .i64).Sl w vo c.outs ∧ I64 c.vars
theorem CorAt.below {w w' : World} {vb vs vo : Value} {c : Cor} (h : CorAt w vb vs vo c) (hb : Below w.heap.size w w') : CorAt w' vb vs vo c := ⟨h.1.below _ hb (Nat.le_refl _), h.2.1.below _ hb (Nat.le_refl _), h.2.2.1.below _ hb (Nat.le_refl _), h.2.2.2⟩
section
variable {H : Type} {enc : TypeId × Value → H}
theorem open_core {w : World} {base b0 : Nat} {spare : Nat → Bool} {held : Bool} {v : Value} {d : DataW H} {p : List MemPlace} {r : Reach}
    (hv : Value.okWide Try.prog w r b0 33 v) (h : DataW.Trod enc Try.prog w base spare held 33 v d p) : ∃ c vb vs vo, v = .agg #[.int .i64 c.vars, vb, vs, vo] ∧ CorAt w vb vs vo c := by
  obtain ⟨⟨cs⟩, rfl, hsz⟩ := okWide_struct Try.underlying33 hv
  have hl : cs.length = 4 := by simpa using hsz.trans (by kernel_rfl : Try.prog.cellsOf 33 = 4)
  obtain ⟨m, hm⟩ := h
  obtain ⟨ys, n, _, _, hlen, hyl, hf⟩ := DataW.trod_struct Try.underlying33 hm
  match cs, hl with
  | [c0, c1, c2, c3], _ =>
    obtain ⟨x0, e0, w0⟩ := field_int Try.underlying3 (by kernel_rfl) ((hf 0 _ rfl).trans (List.getElem?_eq_getElem (by rw [hyl]; decide)))
    obtain ⟨x1, e1⟩ := field_of opens_bufs ((hf 1 _ rfl).trans (List.getElem?_eq_getElem (by rw [hyl]; decide)))
    obtain ⟨x2, e2⟩ := field_of opens_stps ((hf 2 _ rfl).trans (List.getElem?_eq_getElem (by rw [hyl]; decide)))
    obtain ⟨x3, e3⟩ := field_of opens_ints ((hf 3 _ rfl).trans (List.getElem?_eq_getElem (by rw [hyl]; decide)))
    obtain ⟨v1, e1, h1⟩ := e1
    obtain ⟨v2, e2, h2⟩ := e2
    obtain ⟨v3, e3, h3⟩ := e3
    have f0 : [c0] = [.int .i64 x0] := e0
    have f1 : [c1] = [v1] := e1
    have f2 : [c2] = [v2] := e2
    have f3 : [c3] = [v3] := e3
    cases f0; cases f1; cases f2; cases f3
    exact ⟨⟨x0, x1, x2, x3⟩, c1, c2, c3, rfl, h1, h2, h3, bounds_i64 w0⟩
end
end Go.Proofs.Ytmlfeocdcjhhaaa

namespace Go.Proofs.Ytmlfeocdcjhhaaa
set_option maxRecDepth 100000
open Go.RowKit
set_option linter.unusedVariables false
set_option linter.unusedSimpArgs false
attribute [local go_sem ↓] Go.wp_at_zero Go.wp_at_succ

/-- no variable from V on -/
def freeB (V : Nat) (m : Mono) : Bool := (List.range 6).all fun k => decide (k < V) || decide (m.ex k ≤ 0)
def ownB (V : Nat) (p : List Mono) : Bool := polyB p && p.all (freeB V)
theorem free_bad {V : Nat} {m : Mono} {k : Nat} (hk : k < 6) (hV : V ≤ k) (h : 0 < m.ex k) : freeB V m = false := by
  unfold freeB
  exact List.all_eq_false.2 ⟨k, List.mem_range.2 hk, by simp; omega⟩
theorem free_good {V : Nat} {m : Mono} (h : ∀ k, k < 6 → V ≤ k → m.ex k ≤ 0) : freeB V m = true := by
  unfold freeB
  exact List.all_eq_true.2 fun k hk => by
    have hk := List.mem_range.1 hk
    by_cases hV : k < V
    · simp [hV]
    · simp [hV, h k hk (by omega)]
theorem own_bad {V : Nat} {p : List Mono} {i : Nat} (hi : i < p.length) (h : freeB V p[i] = false) : ownB V p = false := by
  unfold ownB
  rw [show p.all (freeB V) = false from List.all_eq_false.2 ⟨_, List.getElem_mem hi, by simp [h]⟩, Bool.and_false]
theorem own_good {V : Nat} {p : List Mono} (h : ∀ i, (hi : i < p.length) → freeB V p[i] = true) : ownB V p = polyB p := by
  unfold ownB
  rw [show p.all (freeB V) = true from List.all_eq_true.2 fun m hm => by
    obtain ⟨i, hi, rfl⟩ := List.getElem_of_mem hm
    exact h i hi, Bool.and_true]
theorem els_ex {w : World} {a : Option Addr} {p : List Mono} (h : monoRep.Els w a p) {i k : Nat} (hi : i < p.length) (hk : k < 6) : ∃ b off, a = some ⟨b, off, none⟩ ∧ w.cell? ⟨b, off + i * 7 + 1 + k, none⟩ = some (.int .u8 (p[i].ex k)) := by
  obtain ⟨b, off, cs, e, ⟨rfl, hw⟩, hc⟩ := h i hi
  refine ⟨b, off, e, ?_⟩
  have := hc (1 + k) (.int .u8 (p[i].ex k)) (by
    have hcs : k = 0 ∨ k = 1 ∨ k = 2 ∨ k = 3 ∨ k = 4 ∨ k = 5 := by omega
    rcases hcs with rfl | rfl | rfl | rfl | rfl | rfl <;> rfl)
  rw [show off + i * 7 + 1 + k = off + i * monoRep.n + (1 + k) from by show off + i * 7 + 1 + k = off + i * 7 + (1 + k); omega]
  exact this

set_option maxHeartbeats 8000000 in
theorem rown_any (w : World) (a : Option Addr) (c : Nat) (p : List Mono) (V : Nat) (hV : V ≤ 6) (h : monoRep.Els w a p) (hm : p.length ≤ 9223372036854775807) :
    Calls Try.prog 106 #[.slice a p.length c, .int .i64 (V : Int)] w fun e w' => e = .returned (.bool (ownB V p)) ∧ Below w.heap.size w w' := by
  have hr := rright_any w a c p h hm
  cases hp : polyB p with
  | false =>
    have HG := Lib.hid (show ownB V p = false from by unfold ownB; rw [hp]; rfl)
    rw [hp] at hr
    have HR := Lib.hid hr
    clear hr hp h
    go_enter Try.func106, Try.ntmps106
    go_wp2_with (go_at_call 58; refine HR.out.mono ?_; rintro e w1 ⟨rfl, hb1⟩)
    go_ret
    exact ⟨ret_bool HG.out.symm, hb1⟩
  | true =>
    rw [hp] at hr
    have HR := Lib.hid hr; have HE := Lib.hid h; have HP := Lib.hid hp; have HWF := Lib.hid (wf_mono h)
    clear hr hp h
    go_enter Try.func106, Try.ntmps106
    go_wp2_with (go_at_call 58; refine HR.out.mono ?_; rintro e w1 ⟨rfl, hb1⟩)
    have HB := Lib.hid hb1
    clear hb1 HR
    go_loop [5] (fun i => ∃ k : Nat, k ≤ p.length ∧ i = .int .i64 k ∧ (∀ j, (hj : j < p.length) → j < k → freeB V p[j] = true)) (fun i => p.length - (intOf i).toNat)
    case atStart => exact ⟨0, Nat.zero_le _, rfl, fun j _ h => absurd h (Nat.not_lt_zero j)⟩
    case round =>
      obtain ⟨i, hi, rfl, hall⟩ := hrel
      have HALL := Lib.hid hall
      clear hall
      have hz0 : (0 : Int) ≤ (i : Int) := by omega
      by_cases hlt : i < p.length
      · have hz1 : (i : Int) < (p.length : Int) := by omega
        go_wp2_with fail
        go_loop [6] (fun t => ∃ k : Nat, V ≤ k ∧ k ≤ 6 ∧ t = .int .i64 k ∧ (∀ j, j < k → V ≤ j → p[i].ex j ≤ 0)) (fun t => 6 - (intOf t).toNat)
        case atStart => exact ⟨V, Nat.le_refl _, hV, rfl, fun j h1 h2 => by omega⟩
        case round =>
          obtain ⟨k, hVk, hk6, rfl, hfr⟩ := hrel
          have HFR := Lib.hid hfr
          clear hfr
          have hk0 : (0 : Int) ≤ (k : Int) := by omega
          by_cases hk : k < 6
          · obtain ⟨b, off, rfl, x0⟩ := els_ex (HE.out.below monoRep HB.out (Nat.le_refl _)) hlt hk
            have hk1 : (k : Int) < 6 := by omega
            obtain ⟨e, he⟩ : ∃ e, p[i].ex k = e := ⟨_, rfl⟩
            rw [he] at x0
            by_cases hpos : 0 < e
            · have HG := Lib.hid (own_bad hlt (free_bad (m := p[i]) hk hVk (by rw [he]; exact hpos)))
              clear he
              go_wp2_with fail
              go_ret
              exact ⟨ret_bool HG.out.symm, HB.out⟩
            · have hpos' : decide (0 < e) = false := by simpa using hpos
              have HEE := Lib.hid (show p[i].ex k ≤ 0 from by rw [he]; omega)
              clear he hpos
              go_wp2_with fail
              go_round
              case rel => exact ⟨k + 1, by omega, by omega, by go_num, fun j h1 h2 => by
                by_cases ej : j = k
                · rw [ej]; exact HEE.out
                · exact HFR.out j (by omega) h2⟩
              case measure => simp [intOf]; omega
          · have HF := Lib.hid (free_good (V := V) (m := p[i]) (fun j hj hVj => HFR.out j (by omega) hVj))
            go_wp2_with fail
            go_round
            case rel => exact ⟨i + 1, by omega, by go_num, fun j hj h => by
              by_cases ej : j = i
              · subst ej; exact HF.out
              · exact HALL.out j hj (by omega)⟩
            case measure => simp [intOf]; omega
      · have HG := Lib.hid ((own_good (V := V) (p := p) (fun j hj => HALL.out j hj (by omega))).trans HP.out)
        go_wp2_with fail
        go_ret
        exact ⟨ret_bool HG.out.symm, HB.out⟩

set_option maxHeartbeats 8000000 in
theorem of_any (w : World) (a : Option Addr) (c : Nat) (p : List Mono) (V : Nat) (hV : V ≤ 6) (h : monoRep.Els w a p) (hm : p.length ≤ 9223372036854775807) :
    Calls Try.prog 85 #[.slice a p.length c, .int .i64 (V : Int)] w fun e w' => e = .returned (.bool (ownB V p)) ∧ Below w.heap.size w w' := by
  have hr := fun W (hb : Below w.heap.size w W) => right_any W a c p (h.below monoRep hb (Nat.le_refl _)) hm
  have HR := Lib.hid hr; have HE := Lib.hid h; have HWF := Lib.hid (wf_mono h)
  clear hr h
  have hv0 : (0 : Int) ≤ (V : Int) := by omega
  have hv6 : (V : Int) ≤ 6 := by omega
  have hvd : decide ((V : Int) < 0) = false := by simp
  go_enter Try.func85, Try.ntmps85
  go_wp2_with fail
  go_loopw [11] (fun i wr => ∃ k : Nat, k ≤ p.length ∧ i = .int .i64 k ∧ (∀ j, (hj : j < p.length) → j < k → freeB V p[j] = true) ∧ Below w.heap.size w wr) (fun i _ => p.length - (intOf i).toNat)
  case atStart => exact ⟨0, Nat.zero_le _, rfl, fun j _ h => absurd h (Nat.not_lt_zero j), Below.refl _ _⟩
  case round =>
    obtain ⟨i, hi, rfl, hall, hB⟩ := hrel
    have HALL := Lib.hid hall; have HB := Lib.hid hB
    clear hall hB
    have hz0 : (0 : Int) ≤ (i : Int) := by omega
    by_cases hlt : i < p.length
    · obtain ⟨b, off, rfl, hw, x0, x1, x2, x3, x4, x5, x6⟩ := els_mono (HE.out.below monoRep HB.out (Nat.le_refl _)) hlt
      have hz1 : (i : Int) < (p.length : Int) := by omega
      have hn0 := World.alloc_heap_new wr (.cells p[i].enc.toArray 47)
      obtain ⟨z, hz⟩ : ∃ z, wr.heap.size = z := ⟨_, rfl⟩
      rw [hz] at hn0
      have hbw : Below w.heap.size w (wr.alloc (.cells p[i].enc.toArray 47)) := HB.out.alloc HB.out.size _
      have HN0 := Lib.hid hn0; have HBW := Lib.hid hbw
      clear hn0 hbw hw
      go_upto_region 4 with fail
      refine gen_worldA (fun W => Below w.heap.size w W ∧ W.heap[z]? = some (.cells p[i].enc.toArray 47 (0, 0))) ⟨HBW.out, HN0.out⟩ ?_
      clear HN0 HBW x0 x1 x2 x3 x4 x5 x6 HB hz
      rintro W ⟨hbW, g0⟩
      have HB := Lib.hid hbW; have G0 := Lib.hid g0
      clear hbW g0
      by_cases hV6 : V = 6
      · have HF := Lib.hid (free_good (V := V) (m := p[i]) (fun j h1 h2 => by omega))
        subst hV6
        go_wp2_with fail
        go_loop [21] (fun t => t = .int .i64 0) (fun _ => 0)
        case atStart => rfl
        case round =>
          subst hrel
          go_wp2_with fail
          go_roundw
          case rel => exact ⟨i + 1, by omega, by go_num, fun j hj h => by
            by_cases ej : j = i
            · subst ej; exact HF.out
            · exact HALL.out j hj (by omega), HB.out⟩
          case measure => simp [intOf]; omega
      · have h6 : ¬ 6 = V := fun e => hV6 e.symm
        clear hV6
        go_wp2_with fail
        go_loop [8, 21] (fun _ t => ∃ k : Nat, V + k ≤ 6 ∧ t = .int .i64 k ∧ ∀ j, j < k → p[i].ex (V + j) ≤ 0) (fun _ t => 6 - (intOf t).toNat)
        case atStart => exact ⟨0, by omega, rfl, fun j h => absurd h (Nat.not_lt_zero j)⟩
        case round =>
          obtain ⟨k, hk6, rfl, hfr⟩ := hrel
          have HFR := Lib.hid hfr
          clear hfr
          have hk0 : (0 : Int) ≤ (k : Int) := by omega
          by_cases hk : V + k < 6
          · have x0 := boxX G0.out hk
            rw [← Nat.add_assoc] at x0
            have hk1 : (k : Int) < 6 - (V : Int) := by omega
            have hk2 : k < 6 - V := by omega
            obtain ⟨e, he⟩ : ∃ e, p[i].ex (V + k) = e := ⟨_, rfl⟩
            rw [he] at x0
            by_cases hpos : 0 < e
            · have HG := Lib.hid (own_bad hlt (free_bad (m := p[i]) hk (Nat.le_add_right V k) (by rw [he]; exact hpos)))
              clear he
              go_wp2_with fail
              go_ret
              exact ⟨ret_bool HG.out.symm, HB.out⟩
            · have hpos' : decide (0 < e) = false := by simpa using hpos
              have HEE := Lib.hid (show p[i].ex (V + k) ≤ 0 from by rw [he]; omega)
              clear he hpos
              go_wp2_with fail
              go_round
              case rel => exact ⟨k + 1, by omega, by go_num, fun j h1 => by
                by_cases ej : j = k
                · rw [ej]; exact HEE.out
                · exact HFR.out j (by omega)⟩
              case measure => simp [intOf]; omega
          · have HF := Lib.hid (free_good (V := V) (m := p[i]) (fun j hj hVj => by
              have := HFR.out (j - V) (by omega)
              rwa [show V + (j - V) = j from by omega] at this))
            have hk1 : ¬ ((k : Int) < 6 - (V : Int)) := by omega
            have hk2 : ¬ (k < 6 - V) := by omega
            go_wp2_with fail
            go_roundw
            case rel => exact ⟨i + 1, by omega, by go_num, fun j hj h => by
              by_cases ej : j = i
              · subst ej; exact HF.out
              · exact HALL.out j hj (by omega), HB.out⟩
            case measure => simp [intOf]; omega
    · have HG := Lib.hid (own_good (V := V) (p := p) (fun j hj => HALL.out j hj (by omega)))
      go_wp2_with fail
      refine (HR.out _ HB.out).mono ?_
      rintro e w1 ⟨rfl, hb1⟩
      go_wp2_with fail
      go_ret
      exact ⟨ret_bool HG.out.symm, bNext hb1 HB.out⟩
end Go.Proofs.Ytmlfeocdcjhhaaa

namespace Go.Proofs.Ytmlfeocdcjhhaaa
set_option maxRecDepth 100000
open Go.RowKit
set_option linter.unusedVariables false
set_option linter.unusedSimpArgs false
attribute [local go_sem ↓] Go.wp_at_zero Go.wp_at_succ

def bothB (V : Nat) (p : List Mono) : Bool := ownB V p && growsB p
def growB (V : Nat) (l : List (List Mono)) : Bool := decide (l.length ≤ 4) && l.all (bothB V)
theorem grow_bad {V : Nat} {l : List (List Mono)} {i : Nat} (hi : i < l.length) (h : bothB V l[i] = false) : growB V l = false := by
  unfold growB
  rw [show l.all (bothB V) = false from List.all_eq_false.2 ⟨_, List.getElem_mem hi, by simp [h]⟩, Bool.and_false]
theorem grow_long {V : Nat} {l : List (List Mono)} (h : 4 < l.length) : growB V l = false := by
  unfold growB
  rw [decide_eq_false (by omega)]
  rfl
theorem grow_good {V : Nat} {l : List (List Mono)} (h : ∀ i, (hi : i < l.length) → bothB V l[i] = true) : growB V l = decide (l.length ≤ 4) := by
  unfold growB
  rw [show l.all (bothB V) = true from List.all_eq_true.2 fun m hm => by
    obtain ⟨i, hi, rfl⟩ := List.getElem_of_mem hm
    exact h i hi, Bool.and_true]

set_option maxHeartbeats 8000000 in
theorem grow_any (w : World) (a : Option Addr) (c : Nat) (l : List (List Mono)) (V : Nat) (hV : V ≤ 6) (h : polyRep.Els w a l) (hm : l.length ≤ 9223372036854775807) :
    Calls Try.prog 46 #[.slice a l.length c, .int .i64 (V : Int)] w fun e w' => e = .returned (.bool (growB V l)) ∧ Below w.heap.size w w' := by
  have HE := Lib.hid h
  clear h
  go_enter Try.func46, Try.ntmps46
  go_wp2_with fail
  go_loopw [9] (fun i wr => ∃ k : Nat, k ≤ l.length ∧ i = .int .i64 k ∧ (∀ j, (hj : j < l.length) → j < k → bothB V l[j] = true) ∧ Below w.heap.size w wr) (fun i _ => l.length - (intOf i).toNat)
  case atStart => exact ⟨0, Nat.zero_le _, rfl, fun j _ h => absurd h (Nat.not_lt_zero j), Below.refl _ _⟩
  case round =>
    obtain ⟨i, hi, rfl, hall, hB⟩ := hrel
    have HALL := Lib.hid hall; have HB := Lib.hid hB
    clear hall hB
    have hz0 : (0 : Int) ≤ (i : Int) := by omega
    by_cases hlt : i < l.length
    · obtain ⟨b, off, v, rfl, x0, hs⟩ := els_list (HE.out.below polyRep HB.out (Nat.le_refl _)) hlt
      have hz1 : (i : Int) < (l.length : Int) := by omega
      obtain ⟨pa, pc, rfl, hpl, hpe⟩ := Rep.Sl.form hs
      have hof := of_any wr pa pc l[i] V hV hpe hpl
      have hgr := fun W (hb : Below wr.heap.size wr W) => grows_any W pa pc l[i] (hpe.below monoRep hb (Nat.le_refl _)) hpl
      have hbo : bothB V l[i] = (ownB V l[i] && growsB l[i]) := rfl
      cases ho : ownB V l[i] with
      | false =>
        rw [ho] at hof hbo
        have HOF := Lib.hid hof
        have HG := Lib.hid (grow_bad hlt (hbo.trans (Bool.false_and _)))
        clear hof hgr hbo ho hs hpe
        go_wp2_with (go_at_call 85; refine HOF.out.mono ?_; rintro e w1 ⟨rfl, hb1⟩)
        go_ret
        exact ⟨ret_bool HG.out.symm, bNext hb1 HB.out⟩
      | true =>
        rw [ho] at hof hbo
        rw [Bool.true_and] at hbo
        have HOF := Lib.hid hof
        clear hof hs hpe ho
        cases hg : growsB l[i] with
        | false =>
          rw [hg] at hgr hbo
          have HGR := Lib.hid hgr
          have HG := Lib.hid (grow_bad hlt hbo)
          clear hgr hbo hg
          go_wp2_with fail
          refine HOF.out.mono ?_
          rintro e w1 ⟨rfl, hb1⟩
          go_wp2_with fail
          refine (HGR.out _ hb1).mono ?_
          rintro e w2 ⟨rfl, hb2⟩
          go_wp2_with fail
          go_ret
          exact ⟨ret_bool HG.out.symm, bNext (bNext hb2 hb1) HB.out⟩
        | true =>
          rw [hg] at hgr hbo
          have HGR := Lib.hid hgr
          have HBO := Lib.hid hbo
          clear hgr hbo hg
          go_wp2_with fail
          refine HOF.out.mono ?_
          rintro e w1 ⟨rfl, hb1⟩
          go_wp2_with fail
          refine (HGR.out _ hb1).mono ?_
          rintro e w2 ⟨rfl, hb2⟩
          go_wp2_with fail
          go_roundw
          case rel => exact ⟨i + 1, by omega, by go_num, fun j hj h => by
            by_cases ej : j = i
            · subst ej; exact HBO.out
            · exact HALL.out j hj (by omega), bNext (bNext hb2 hb1) HB.out⟩
          case measure => simp [intOf]; omega
    · have HG := Lib.hid (grow_good (V := V) (l := l) (fun j hj => HALL.out j hj (by omega)))
      by_cases hl4 : l.length ≤ 4
      · have hd : decide ((l.length : Int) ≤ 4) = true := by simp; omega
        have HG2 := Lib.hid (HG.out.trans (decide_eq_true hl4))
        go_wp2_with fail
        go_ret
        exact ⟨ret_bool HG2.out.symm, HB.out⟩
      · have hd : decide ((l.length : Int) ≤ 4) = false := by simp; omega
        have HG2 := Lib.hid (HG.out.trans (decide_eq_false hl4))
        clear hl4
        go_wp2_with fail
        go_ret
        exact ⟨ret_bool HG2.out.symm, HB.out⟩

set_option maxHeartbeats 8000000 in
theorem rgrow_any (w : World) (a : Option Addr) (c : Nat) (l : List (List Mono)) (V : Nat) (hV : V ≤ 6) (h : polyRep.Els w a l) (hm : l.length ≤ 9223372036854775807) :
    Calls Try.prog 64 #[.slice a l.length c, .int .i64 (V : Int)] w fun e w' => e = .returned (.bool (growB V l)) ∧ Below w.heap.size w w' := by
  have HE := Lib.hid h
  clear h
  by_cases hl4 : 4 < l.length
  · have hd : decide ((4 : Int) < (l.length : Int)) = true := by simp; omega
    have HG := Lib.hid (grow_long (V := V) hl4)
    go_enter Try.func64, Try.ntmps64
    go_wp2_with fail
    go_ret
    exact ⟨ret_bool HG.out.symm, Below.refl _ _⟩
  have hd : decide ((4 : Int) < (l.length : Int)) = false := by simp; omega
  have hl4' : l.length ≤ 4 := by omega
  clear hl4
  go_enter Try.func64, Try.ntmps64
  go_wp2_with fail
  clear hd
  go_loopw [5] (fun i wr => ∃ k : Nat, k ≤ l.length ∧ i = .int .i64 k ∧ (∀ j, (hj : j < l.length) → j < k → bothB V l[j] = true) ∧ Below w.heap.size w wr) (fun i _ => l.length - (intOf i).toNat)
  case atStart => exact ⟨0, Nat.zero_le _, rfl, fun j _ h => absurd h (Nat.not_lt_zero j), Below.refl _ _⟩
  case round =>
    obtain ⟨i, hi, rfl, hall, hB⟩ := hrel
    have HALL := Lib.hid hall; have HB := Lib.hid hB
    clear hall hB
    have hz0 : (0 : Int) ≤ (i : Int) := by omega
    by_cases hlt : i < l.length
    · obtain ⟨b, off, v, rfl, x0, hs⟩ := els_list (HE.out.below polyRep HB.out (Nat.le_refl _)) hlt
      have hz1 : (i : Int) < (l.length : Int) := by omega
      obtain ⟨pa, pc, rfl, hpl, hpe⟩ := Rep.Sl.form hs
      have hof := rown_any wr pa pc l[i] V hV hpe hpl
      have hgr := fun W (hb : Below wr.heap.size wr W) => rgrows_any W pa pc l[i] (hpe.below monoRep hb (Nat.le_refl _)) hpl
      have hbo : bothB V l[i] = (ownB V l[i] && growsB l[i]) := rfl
      cases ho : ownB V l[i] with
      | false =>
        rw [ho] at hof hbo
        have HOF := Lib.hid hof
        have HG := Lib.hid (grow_bad hlt (hbo.trans (Bool.false_and _)))
        clear hof hgr hbo ho hs hpe
        go_wp2_with (go_at_call 106; refine HOF.out.mono ?_; rintro e w1 ⟨rfl, hb1⟩)
        go_ret
        exact ⟨ret_bool HG.out.symm, bNext hb1 HB.out⟩
      | true =>
        rw [ho] at hof hbo
        rw [Bool.true_and] at hbo
        have HOF := Lib.hid hof
        clear hof hs hpe ho
        cases hg : growsB l[i] with
        | false =>
          rw [hg] at hgr hbo
          have HGR := Lib.hid hgr
          have HG := Lib.hid (grow_bad hlt hbo)
          clear hgr hbo hg
          go_wp2_with fail
          refine HOF.out.mono ?_
          rintro e w1 ⟨rfl, hb1⟩
          have x0' := keepCell hb1 x0
          clear x0
          go_wp2_with fail
          refine (HGR.out _ hb1).mono ?_
          rintro e w2 ⟨rfl, hb2⟩
          go_wp2_with fail
          go_ret
          exact ⟨ret_bool HG.out.symm, bNext (bNext hb2 hb1) HB.out⟩
        | true =>
          rw [hg] at hgr hbo
          have HGR := Lib.hid hgr
          have HBO := Lib.hid hbo
          clear hgr hbo hg
          go_wp2_with fail
          refine HOF.out.mono ?_
          rintro e w1 ⟨rfl, hb1⟩
          have x0' := keepCell hb1 x0
          clear x0
          go_wp2_with fail
          refine (HGR.out _ hb1).mono ?_
          rintro e w2 ⟨rfl, hb2⟩
          go_wp2_with fail
          go_roundw
          case rel => exact ⟨i + 1, by omega, by go_num, fun j hj h => by
            by_cases ej : j = i
            · subst ej; exact HBO.out
            · exact HALL.out j hj (by omega), bNext (bNext hb2 hb1) HB.out⟩
          case measure => simp [intOf]; omega
    · have HG2 := Lib.hid ((grow_good (V := V) (l := l) (fun j hj => HALL.out j hj (by omega))).trans (decide_eq_true hl4'))
      go_wp2_with fail
      go_ret
      exact ⟨ret_bool HG2.out.symm, HB.out⟩
end Go.Proofs.Ytmlfeocdcjhhaaa
