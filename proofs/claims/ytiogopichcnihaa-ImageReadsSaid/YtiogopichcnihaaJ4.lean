import Derived.Test.YtiogopichcnihaaJ3
import Derived.Test.YtiogopichcnihaaCF
import Derived.Test.YtiogopichcnihaaW4
import Derived.Test.YtiogopichcnihaaQB
namespace Go.Proofs.Ytiogopichcnihaa
set_option maxRecDepth 100000
open Go.RowKit Go.ChangeShapes Go.WideShapes Go.Deep
set_option linter.unusedVariables false
set_option linter.unusedSimpArgs false

/-! Images in memory. -/
def I64 (x : Int) : Prop := -9223372036854775808 ≤ x ∧ x ≤ 9223372036854775807
/-- a slice of numbers -/
def IntSl (k : IntKind) (w : World) (v : Value) (xs : List Int) : Prop := ∃ a c, v = .slice a xs.length c ∧ xs.length ≤ c ∧ c ≤ maxLen ∧ IntsAt k w a xs
theorem IntSl.below {k : IntKind} {w w' : World} {v : Value} {xs : List Int} (h : IntSl k w v xs) (hb : Below w.heap.size w w') : IntSl k w' v xs := by
  obtain ⟨a, c, e, h1, h2, h3⟩ := h
  exact ⟨a, c, e, h1, h2, h3.below hb (Nat.le_refl _)⟩
theorem IntSl.nil (k : IntKind) (w : World) : IntSl k w (.slice none 0 0) [] := ⟨none, 0, rfl, Nat.le_refl _, Nat.zero_le _, IntsAt.nil _ _ _⟩
theorem IntSl.of {k : IntKind} {w : World} {v : Value} {xs : List Int} (h : (Rep.int k).Sl w v xs) : IntSl k w v xs := by
  obtain ⟨a, c, e, h1, h2, h3, h4⟩ := h
  refine ⟨a, c, e, h1, h2, fun i hi => ?_⟩
  obtain ⟨b, off, cs, e1, ⟨rfl, hw⟩, hc⟩ := h4 i hi
  refine ⟨b, off, e1, ?_⟩
  have := hc 0 _ rfl
  simpa [Rep.int, Rep.flat] using this
/-- bytes of a slice of bytes -/
theorem Byts.of {w : World} {v : Value} {xs : List Int} (h : (Rep.int .u8).Sl w v xs) : Byts xs := by
  obtain ⟨a, c, e, h1, h2, h3, h4⟩ := h
  intro x hx
  obtain ⟨i, hi, rfl⟩ := List.getElem_of_mem hx
  obtain ⟨b, off, cs, e1, ⟨rfl, hw⟩, hc⟩ := h4 i hi
  exact wf_u8 hw
def slotRep : Rep Slo where
  n := 2
  At w cs s := ∃ v, cs = [.int .i64 s.pos, v] ∧ IntSl .i64 w v s.sides ∧ I64 s.pos
  len := by rintro w cs b ⟨v, rfl, _⟩; rfl
  keep := by rintro w w' cs b ⟨v, e, h, h2⟩ hb; exact ⟨v, e, h.below hb, h2⟩
  one := by
    rintro w cs b ⟨v, rfl, ⟨a, c, rfl, _⟩, _⟩ u hu
    simp at hu
    rcases hu with rfl | rfl <;> rfl
theorem opens_i64s : Opens 22 (Rep.int .i64).slice := opens_slice Try.underlying22 (by kernel_rfl) (by rw [show Try.prog.cellsOf 2 = 1 from by kernel_rfl]; decide) (opens_int Try.underlying2 (by kernel_rfl))
theorem opens_u8s : Opens 28 (Rep.int .u8).slice := opens_slice Try.underlying28 (by kernel_rfl) (by rw [show Try.prog.cellsOf 5 = 1 from by kernel_rfl]; decide) (opens_int Try.underlying5 (by kernel_rfl))
theorem opens_slot : Opens 41 slotRep := ⟨by kernel_rfl, fun {H enc w base spare held m cs y} h => by
  obtain ⟨ys, n, _, _, hlen, hyl, hf⟩ := DataW.trod_struct Try.underlying41 h
  have hl : cs.length = 2 := hlen.trans (by kernel_rfl)
  match cs, hl with
  | [c0, c1], _ =>
    obtain ⟨x0, e0, w0⟩ := field_int Try.underlying2 (by kernel_rfl) ((hf 0 _ rfl).trans (List.getElem?_eq_getElem (by rw [hyl]; decide)))
    obtain ⟨x1, e1⟩ := field_of opens_i64s ((hf 1 _ rfl).trans (List.getElem?_eq_getElem (by rw [hyl]; decide)))
    obtain ⟨v, e1, hs⟩ := e1
    have f1 : [c1] = [v] := e1
    cases e0; cases f1
    exact ⟨⟨x0, x1⟩, c1, rfl, IntSl.of hs, wf_i64 w0⟩⟩
theorem opens_slots : Opens 23 slotRep.slice := opens_slice Try.underlying23 (by kernel_rfl) (by rw [show Try.prog.cellsOf 41 = 2 from by kernel_rfl]; decide) opens_slot
/-- an image by value -/
structure ImgAt (w : World) (vd vi vo vc : Value) (m : Img) : Prop where
  d : IntSl .i64 w vd m.dims
  i : slotRep.Sl w vi m.ins
  o : slotRep.Sl w vo m.outs
  c : insRep.Sl w vc m.code
  mem : I64 m.mem
theorem ImgAt.below {w w' : World} {vd vi vo vc : Value} {m : Img} (h : ImgAt w vd vi vo vc m) (hb : Below w.heap.size w w') : ImgAt w' vd vi vo vc m :=
  ⟨h.d.below hb, h.i.below _ hb (Nat.le_refl _), h.o.below _ hb (Nat.le_refl _), h.c.below _ hb (Nat.le_refl _), h.mem⟩
def img0 : Img := ⟨[], 0, [], [], []⟩
theorem ImgAt.zero (w : World) : ImgAt w (.slice none 0 0) (.slice none 0 0) (.slice none 0 0) (.slice none 0 0) img0 := ⟨IntSl.nil _ _, Rep.Sl.nil _ _, Rep.Sl.nil _ _, Rep.Sl.nil _ _, by show I64 0; unfold I64; omega⟩
section
variable {H : Type} {enc : TypeId × Value → H}
theorem open_image {w : World} {base b0 : Nat} {spare : Nat → Bool} {held : Bool} {v : Value} {d : DataW H} {p : List MemPlace} {r : Reach}
    (hv : Value.okWide Try.prog w r b0 26 v) (h : DataW.Trod enc Try.prog w base spare held 26 v d p) : ∃ m vd vi vo vc, v = .agg #[vd, .int .i64 m.mem, vi, vo, vc] ∧ ImgAt w vd vi vo vc m := by
  obtain ⟨⟨cs⟩, rfl, hsz⟩ := okWide_struct Try.underlying26 hv
  have hl : cs.length = 5 := by simpa using hsz.trans (by kernel_rfl : Try.prog.cellsOf 26 = 5)
  obtain ⟨m, hm⟩ := h
  obtain ⟨ys, n, _, _, hlen, hyl, hf⟩ := DataW.trod_struct Try.underlying26 hm
  match cs, hl with
  | [c0, c1, c2, c3, c4], _ =>
    obtain ⟨x0, e0⟩ := field_of opens_i64s ((hf 0 _ rfl).trans (List.getElem?_eq_getElem (by rw [hyl]; decide)))
    obtain ⟨x1, e1, w1⟩ := field_int Try.underlying3 (by kernel_rfl) ((hf 1 _ rfl).trans (List.getElem?_eq_getElem (by rw [hyl]; decide)))
    obtain ⟨x2, e2⟩ := field_of opens_slots ((hf 2 _ rfl).trans (List.getElem?_eq_getElem (by rw [hyl]; decide)))
    obtain ⟨x3, e3⟩ := field_of opens_slots ((hf 3 _ rfl).trans (List.getElem?_eq_getElem (by rw [hyl]; decide)))
    obtain ⟨x4, e4⟩ := field_of opens_inss ((hf 4 _ rfl).trans (List.getElem?_eq_getElem (by rw [hyl]; decide)))
    obtain ⟨v0, e0, h0⟩ := e0
    obtain ⟨v2, e2, h2⟩ := e2
    obtain ⟨v3, e3, h3⟩ := e3
    obtain ⟨v4, e4, h4⟩ := e4
    have f0 : [c0] = [v0] := e0
    have f1 : [c1] = [.int .i64 x1] := e1
    have f2 : [c2] = [v2] := e2
    have f3 : [c3] = [v3] := e3
    have f4 : [c4] = [v4] := e4
    cases f0; cases f1; cases f2; cases f3; cases f4
    exact ⟨⟨x0, x1, x2, x3, x4⟩, c0, c2, c3, c4, rfl, IntSl.of h0, h2, h3, h4, wf_i64 w1⟩
end

/-! slices.IndexFunc and ContainsFunc over slots. -/
def firstS (p : Slo → Bool) : Nat → List Slo → Int
  | _, [] => -1
  | k, x :: xs => if p x then k else firstS p (k + 1) xs
theorem firstS_step {p : Slo → Bool} {k : Nat} {xs : List Slo} (h : k < xs.length) : firstS p k (xs.drop k) = if p xs[k] then (k : Int) else firstS p (k + 1) (xs.drop (k + 1)) := by
  rw [List.drop_eq_getElem_cons h, firstS]
theorem firstS_nonneg {p : Slo → Bool} : ∀ (xs : List Slo) (k : Nat), decide (0 ≤ firstS p k xs) = xs.any p
  | [], k => by simp [firstS]
  | x :: xs, k => by
    rw [firstS]
    by_cases h : p x
    · simp [h]
    · simp [h, firstS_nonneg xs (k + 1)]
/-- what a function of one slot tells, whatever has been made by then -/
def TellsS (w : World) (g : FuncId) (cs : Array Value) (p : Slo → Bool) : Prop := ∀ (x : Slo) (w' : World), Below w.heap.size w w' → ∀ pa pc, x.sides.length ≤ maxLen → IntsAt .i64 w' pa x.sides → I64 x.pos →
  Calls Try.prog g (#[.agg #[.int .i64 x.pos, .slice pa x.sides.length pc]] ++ cs) w' fun e w'' => e = .returned (.bool (p x)) ∧ Below w'.heap.size w' w''
/-- one slot of a slice -/
theorem els_slot {w : World} {a : Option Addr} {xs : List Slo} (h : slotRep.Els w a xs) {k : Nat} (hk : k < xs.length) : ∃ b off pa pc, a = some ⟨b, off, none⟩ ∧ I64 xs[k].pos ∧ xs[k].sides.length ≤ maxLen ∧ xs[k].sides.length ≤ pc ∧ IntsAt .i64 w pa xs[k].sides ∧
    w.cell? ⟨b, off + k * 2, none⟩ = some (.int .i64 xs[k].pos) ∧ w.cell? ⟨b, off + k * 2 + 1, none⟩ = some (.slice pa xs[k].sides.length pc) := by
  obtain ⟨b, off, cs, e, ⟨v, rfl, ⟨pa, pc, rfl, h1, h2, h3⟩, h4⟩, hc⟩ := h k hk
  exact ⟨b, off, pa, pc, e, h4, Nat.le_trans h1 h2, h1, h3, hc 0 _ rfl, hc 1 _ rfl⟩
set_option maxHeartbeats 2000000 in
theorem indexFuncS (w : World) (a : Option Addr) (cap : Nat) (xs : List Slo) (g : FuncId) (cs : Array Value) (p : Slo → Bool) (hg : ∀ args w, (callFunc g args).run Try.prog w = .ok (.enter g args) w) (hm : xs.length ≤ maxLen) (h : slotRep.Els w a xs) (hp : TellsS w g cs p) :
    Calls Try.prog 48 #[.slice a xs.length cap, .func (.func g) #[] cs] w fun e w' => e = .returned (.int .i64 (firstS p 0 xs)) ∧ Below w.heap.size w w' := by
  unfold maxLen at hm
  have HI := Lib.hid h; have HP := Lib.hid hp; clear h hp
  go_enter Try.func48, Try.ntmps48
  go_wp2
  go_loopw [8] (fun i wr => ∃ k : Nat, k ≤ xs.length ∧ i = .int .i64 k ∧ firstS p 0 xs = firstS p k (xs.drop k) ∧ Below w.heap.size w wr) (fun i _ => xs.length - (intOf i).toNat)
  case atStart => exact ⟨0, Nat.zero_le _, rfl, rfl, Below.refl _ _⟩
  case round =>
    obtain ⟨k, hk, rfl, hr, hbel⟩ := hrel
    by_cases hlt : k < xs.length
    · rw [firstS_step hlt] at hr
      obtain ⟨b, off, pa, pc, rfl, hpo, hsl, -, hsi, x0, x1⟩ := els_slot (HI.out.below slotRep hbel (Nat.le_refl _)) hlt
      have hq := HP.out xs[k] wr hbel pa pc hsl hsi hpo
      have Hr := Lib.hid hr; clear hr hsi hsl hpo
      cases hv : p xs[k] with
      | true =>
        rw [hv] at hq
        have HQ := Lib.hid hq; have Hv := Lib.hid hv; clear hq hv
        go_wp2_with (refine HQ.out.mono ?_; rintro e w' ⟨rfl, hb1⟩)
        go_ret
        exact ⟨ret_int (by rw [Hr.out, if_pos Hv.out]), bNext hb1 hbel⟩
      | false =>
        rw [hv] at hq
        have HQ := Lib.hid hq; have Hv := Lib.hid hv; clear hq hv
        go_wp2_with (refine HQ.out.mono ?_; rintro e w' ⟨rfl, hb1⟩)
        go_roundw
        case rel => exact ⟨k + 1, by omega, by go_num, by rw [Hr.out, if_neg (by rw [Hv.out]; simp)], bNext hb1 hbel⟩
        case measure => simp [intOf]; omega
    · have Hr := Lib.hid hr; clear hr
      go_wp2
      go_ret
      exact ⟨ret_int (by rw [Hr.out, List.drop_eq_nil_of_le (by omega)]; rfl), hbel⟩
theorem containsFuncS (w : World) (a : Option Addr) (cap : Nat) (xs : List Slo) (g : FuncId) (cs : Array Value) (p : Slo → Bool) (hg : ∀ args w, (callFunc g args).run Try.prog w = .ok (.enter g args) w) (hm : xs.length ≤ maxLen) (h : slotRep.Els w a xs) (hp : TellsS w g cs p) :
    Calls Try.prog 31 #[.slice a xs.length cap, .func (.func g) #[] cs] w fun e w' => e = .returned (.bool (xs.any p)) ∧ Below w.heap.size w w' := by
  have hq := Lib.hid (indexFuncS w a cap xs g cs p hg hm h hp)
  clear hp h
  go_enter Try.func31, Try.ntmps31
  go_wp2_with (go_at_call 48; refine hq.out.mono ?_; rintro e w' ⟨rfl, hb1⟩)
  go_ret
  exact ⟨ret_bool (firstS_nonneg _ _), hb1⟩
end Go.Proofs.Ytiogopichcnihaa
