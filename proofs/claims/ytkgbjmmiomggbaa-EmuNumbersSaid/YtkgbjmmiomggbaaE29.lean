import Derived.Test.YtkgbjmmiomggbaaE22
import Derived.Test.YtkgbjmmiomggbaaE26
import Derived.Test.YtkgbjmmiomggbaaE27
import Derived.Test.YtkgbjmmiomggbaaE28
namespace Go.Proofs.Ytkgbjmmiomggbaa
open Go.RowKit Go.ChangeShapes Go.WideShapes Go.Deep
set_option linter.unusedVariables false
attribute [local go_sem ↓] Go.wp_at_zero Go.wp_at_succ

/-- a slice of numbers that lies in memory -/
def IntSl (w : World) (v : Value) (xs : List Int) : Prop := (Rep.int .i64).Sl w v xs
theorem IntSl.below {w w' : World} {v : Value} {xs : List Int} (h : IntSl w v xs) (hb : Below w.heap.size w w') : IntSl w' v xs := Rep.Sl.below _ h hb (Nat.le_refl _)
theorem IntSl.form {w : World} {v : Value} {xs : List Int} (h : IntSl w v xs) : ∃ a c, v = .slice a xs.length c := by
  obtain ⟨a, c, e, _⟩ := h
  exact ⟨a, c, e⟩
theorem IntSl.in64 {w : World} {v : Value} {xs : List Int} (h : IntSl w v xs) : ∀ x ∈ xs, In64 x := by
  obtain ⟨a, c, e, _, _, _, h⟩ := h
  intro x hx
  obtain ⟨k, hk, rfl⟩ := List.getElem_of_mem hx
  obtain ⟨_, _, _, _, ⟨_, hw⟩, _⟩ := h k hk
  exact wf_i64 hw
theorem IntSl.at {w : World} {a : Option Addr} {n c : Nat} {xs : List Int} (h : IntSl w (.slice a n c) xs) : n = xs.length ∧ IntsAt .i64 w a xs := int_at h
theorem IntSl.len {w : World} {v : Value} {xs : List Int} (h : IntSl w v xs) : xs.length ≤ 9223372036854775807 := by
  obtain ⟨a, c, e, h1, h2, _⟩ := h
  unfold maxLen at h2
  omega
theorem IntSl.take {w : World} {a : Option Addr} {n c : Nat} {xs : List Int} (h : IntSl w (.slice a n c) xs) (k : Nat) (hk : k ≤ xs.length) : IntSl w (.slice a k c) (xs.take k) := by
  obtain ⟨a', c', e, h1, h2, h3, h4⟩ := h
  cases e
  refine ⟨a, c, by simp [Nat.min_eq_left hk], by simp; omega, h2, h3, fun i hi => ?_⟩
  simp at hi
  obtain ⟨b, off, cs, e, g1, g2⟩ := h4 i (by omega)
  exact ⟨b, off, cs, e, by rw [List.getElem_take]; exact g1, g2⟩
theorem lit_in {x : Int} (h : In64 x) : (Lit.int .i64 x).wf = true := by
  unfold In64 at h
  simp [Lit.wf, IntKind.min, IntKind.max, IntKind.signed, IntKind.bits]
  omega
theorem map_flat (xs : List Int) : xs.map (Value.int .i64) = xs.flatMap (fun x => [Value.int .i64 x]) := by induction xs <;> simp_all
theorem MemR.sl {B : Nat} {w : World} {v : Value} {xs : List Int} (h : MemR B w v xs) (hx : ∀ x ∈ xs, In64 x) : IntSl w v xs :=
  flat_own (n := 1) (enc := fun x => [Value.int .i64 x]) (wf := fun x => (Lit.int .i64 x).wf = true) (fun _ => rfl) (by intro x v hv; cases List.mem_singleton.1 hv; rfl) (by unfold MemR at h; rwa [map_flat] at h) (fun x hm => lit_in (hx x hm))

/-- A state that was handed in. -/
def stRep : Rep St where
  n := 20
  At w cs s := ∃ v, cs = cellsSt v s ∧ s.wf ∧ IntSl w v s.mem
  len := by rintro w cs s ⟨v, rfl, h, _⟩; exact cellsSt_len h.len
  keep := by rintro w w' cs s ⟨v, e, h, hs⟩ hb; exact ⟨v, e, h, hs.below hb⟩
  one := by rintro w cs s ⟨v, rfl, h, hs⟩; obtain ⟨a, c, rfl⟩ := hs.form; exact cellsSt_one rfl s
theorem opens_i64 : Opens 24 (Rep.int .i64).slice := opens_slice Try.underlying24 (by kernel_rfl) (by rw [show Try.prog.cellsOf 2 = 1 from by kernel_rfl]; decide) (opens_int Try.underlying2 (by kernel_rfl))
theorem one_drop {cs : List Value} {k : Nat} {x : Value} (h : (cs.drop k).take 1 = [x]) : cs[k]? = some x := by
  have := congrArg (·[0]?) h
  simpa [List.getElem?_take, List.getElem?_drop] using this
theorem opens_state : Opens 26 stRep := ⟨by kernel_rfl, fun {H enc w base spare held m cs y} h => by
  obtain ⟨ys, n, _, _, hlen, hyl, hf⟩ := DataW.trod_struct Try.underlying26 h
  have hl : cs.length = 20 := hlen.trans (by kernel_rfl)
  have h0 : DataW.trod enc Try.prog w base spare held n 23 ((cs.drop 0).take (Try.prog.cellsOf 23)) = some (ys[0]'(by rw [hyl]; decide)) := (hf 0 _ rfl).trans (List.getElem?_eq_getElem (by rw [hyl]; decide))
  obtain ⟨zs, k, _, _, _, hzl, hz⟩ := DataW.trod_array Try.underlying23 h0
  rw [show Try.prog.cellsOf 23 = 16 from by kernel_rfl, show Try.prog.cellsOf 2 = 1 from by kernel_rfl] at hz
  obtain ⟨l, hll, hlp⟩ := list_of (n := 16) (p := fun i x => cs[i]? = some (.int .i64 x) ∧ In64 x) (fun i hi => by
    have h1 := (hz i hi).trans (List.getElem?_eq_getElem (by rw [hzl]; exact hi))
    obtain ⟨x, e, _, hw⟩ := DataW.trod_int Try.underlying2 h1
    refine ⟨x, ?_, wf_i64 hw⟩
    have := one_drop (k := i) (cs := (cs.drop 0).take 16) (by simpa using e)
    rw [List.getElem?_take, if_pos hi] at this
    simpa using this)
  obtain ⟨xs, e1⟩ := field_of opens_i64 ((hf 1 _ rfl).trans (List.getElem?_eq_getElem (by rw [hyl]; decide)))
  obtain ⟨v, e1, hs⟩ := e1
  obtain ⟨x2, e2, w2⟩ := field_int Try.underlying3 (by kernel_rfl) ((hf 2 _ rfl).trans (List.getElem?_eq_getElem (by rw [hyl]; decide)))
  obtain ⟨x3, e3, w3⟩ := field_int Try.underlying3 (by kernel_rfl) ((hf 3 _ rfl).trans (List.getElem?_eq_getElem (by rw [hyl]; decide)))
  obtain ⟨x4, e4, w4⟩ := field_int Try.underlying21 (by kernel_rfl) ((hf 4 _ rfl).trans (List.getElem?_eq_getElem (by rw [hyl]; decide)))
  refine ⟨⟨l, xs, x2, x3, x4⟩, v, ?_, ⟨hll, fun x hx => ?_, IntSl.in64 hs, wf_i64 w2, wf_i64 w3, wf_i32 w4⟩, hs⟩
  · refine List.ext_getElem? fun i => ?_
    have g1 := one_drop (k := 16) (cs := cs) e1
    have g2 := one_drop (k := 17) (cs := cs) e2
    have g3 := one_drop (k := 18) (cs := cs) e3
    have g4 := one_drop (k := 19) (cs := cs) e4
    unfold cellsSt
    dsimp only
    by_cases hi : i < 16
    · rw [List.getElem?_append_left (by simpa [hll] using hi), List.getElem?_map, (hlp i (by omega)).1, List.getElem?_eq_getElem (show i < l.length by omega)]
      rfl
    · rw [List.getElem?_append_right (by simp [hll]; omega)]
      simp only [List.length_map, hll]
      by_cases h16 : i = 16
      · subst h16; exact g1
      by_cases h17 : i = 17
      · subst h17; exact g2
      by_cases h18 : i = 18
      · subst h18; exact g3
      by_cases h19 : i = 19
      · subst h19; exact g4
      rw [List.getElem?_eq_none (by omega), List.getElem?_eq_none (by simp; omega)]
  · obtain ⟨k, hk, rfl⟩ := List.getElem_of_mem hx
    exact (hlp k hk).2⟩
section
variable {H : Type} {enc : TypeId × Value → H}
theorem open_state {w : World} {base b0 : Nat} {spare : Nat → Bool} {held : Bool} {v : Value} {d : DataW H} {p : List MemPlace} {r : Reach}
    (hv : Value.okWide Try.prog w r b0 26 v) (h : DataW.Trod enc Try.prog w base spare held 26 v d p) : ∃ s u, v = .agg (cellsSt u s).toArray ∧ s.wf ∧ IntSl w u s.mem := by
  obtain ⟨cs, rfl, _⟩ := okWide_struct Try.underlying26 hv
  obtain ⟨m, hm⟩ := h
  obtain ⟨s, u, e, hw, hs⟩ := opens_state.2 hm
  refine ⟨s, u, ?_, hw, hs⟩
  simp only [Value.cells] at e
  rw [← e]
end

/-- Step's answer -/
def StepS (code : List Ins) (s : St) : St := if s.fin = 0 then rstepS code s else s
def StepW (w : World) (s1 : St) (e : Ending) (w' : World) : Prop := ∃ v', e = .returned (.agg (cellsSt v' s1).toArray) ∧ IntSl w' v' s1.mem ∧ s1.wf ∧ Below w.heap.size w w'
theorem step_any (w : World) (v : Value) (ca : Option Addr) (cc : Nat) (code : List Ins) (s : St) (hwf : s.wf) (hm : s.mem.length ≤ 2097152) (hs : IntSl w v s.mem) (he : insRep.Els w ca code) (hlen : code.length ≤ 9223372036854775807) :
    Calls Try.prog 12 #[.slice ca code.length cc, .agg (cellsSt v s).toArray] w (StepW w (StepS code s)) := by
  obtain ⟨a, c, rfl⟩ := hs.form
  unfold StepS
  by_cases hf : s.fin = 0
  · rw [if_pos hf]
    exact (step_go w a c ca cc code s hwf hf hm hs he (by omega)).mono fun e w' ⟨v', h1, h2, h3⟩ => ⟨v', h1, h2.sl (rstepS_wf (els_wf he) hlen hwf).mem, rstepS_wf (els_wf he) hlen hwf, h3⟩
  · rw [if_neg hf]
    exact (step_stop w _ ca code.length cc s hwf.len rfl hf).mono fun e w' ⟨h1, h3⟩ => ⟨_, h1, hs.below h3, hwf, h3⟩
theorem rStep_any (w : World) (v : Value) (ca : Option Addr) (cc : Nat) (code : List Ins) (s : St) (hwf : s.wf) (hm : s.mem.length ≤ 2097152) (hs : IntSl w v s.mem) (he : insRep.Els w ca code) (hlen : code.length ≤ 9223372036854775807) :
    Calls Try.prog 13 #[.slice ca code.length cc, .agg (cellsSt v s).toArray] w (StepW w (StepS code s)) := by
  obtain ⟨a, c, rfl⟩ := hs.form
  unfold StepS
  by_cases hf : s.fin = 0
  · rw [if_pos hf]
    exact (rStep_go w a c ca cc code s hwf hf hm hs he (by omega)).mono fun e w' ⟨v', h1, h2, h3⟩ => ⟨v', h1, h2.sl (rstepS_wf (els_wf he) hlen hwf).mem, rstepS_wf (els_wf he) hlen hwf, h3⟩
  · rw [if_neg hf]
    exact (rStep_stop w _ ca code.length cc s hwf.len rfl hf).mono fun e w' ⟨h1, h3⟩ => ⟨_, h1, hs.below h3, hwf, h3⟩
theorem StepS_memlen (code : List Ins) (s : St) : (StepS code s).mem.length = s.mem.length := by
  unfold StepS
  split
  · exact rstepS_memlen code s
  · rfl
/-- Run's answer, whatever the run -/
def RunS (code : List Ins) (mem : List Int) (most : Int) : (St × Nat) × Int := if goodB code mem.length most then (runI code most.toNat (St0 mem), 0) else ((St0 [], 0), 160)
def RunW (w : World) (r : (St × Nat) × Int) (e : Ending) (w' : World) : Prop := ∃ v', e = .returned (.tuple #[.agg (cellsSt v' r.1.1).toArray, .int .i64 (r.1.2 : Int), .int .i64 r.2]) ∧ IntSl w' v' r.1.1.mem ∧ r.1.1.wf ∧ Below w.heap.size w w'
theorem runI_wf {code : List Ins} (hc : ∀ x ∈ code, x.wf) (hl : code.length ≤ 9223372036854775807) : ∀ (n : Nat) {s : St}, s.wf → (runI code n s).1.wf
  | 0, s, h => fin_wf h ⟨by decide, by decide⟩
  | n + 1, s, h => by
    rw [runI]
    split
    · exact runI_wf hc hl n (mstepS_wf hc hl h)
    · exact mstepS_wf hc hl h
theorem St0_nil : (St0 []).wf := St0_wf (by simp)
theorem run_any (w : World) (v : Value) (mem : List Int) (ca : Option Addr) (cc : Nat) (code : List Ins) (most : Int) (he : insRep.Els w ca code) (hlen : code.length ≤ 9223372036854775807) (hs : IntSl w v mem) :
    Calls Try.prog 15 #[.slice ca code.length cc, v, .int .i64 most] w (RunW w (RunS code mem most)) := by
  obtain ⟨a, c, rfl⟩ := hs.form
  unfold RunS
  cases hg : goodB code mem.length most with
  | true =>
    have hw := runI_wf (els_wf he) hlen most.toNat (St0_wf hs.in64)
    exact (run_good w a c mem ca cc code most hg he hs.at.2 hs.in64).mono fun e w' ⟨v', h1, h2, h3⟩ => ⟨v', h1, h2.sl hw.mem, hw, h3⟩
  | false => exact (run_bad w a c mem ca cc code most hg he (by unfold maxLen; omega)).mono fun e w' ⟨h1, h3⟩ => ⟨_, h1, Rep.Sl.nil _ _, St0_nil, h3⟩
theorem rRun_any (w : World) (v : Value) (mem : List Int) (ca : Option Addr) (cc : Nat) (code : List Ins) (most : Int) (he : insRep.Els w ca code) (hlen : code.length ≤ 9223372036854775807) (hs : IntSl w v mem) :
    Calls Try.prog 16 #[.slice ca code.length cc, v, .int .i64 most] w (RunW w (RunS code mem most)) := by
  obtain ⟨a, c, rfl⟩ := hs.form
  unfold RunS
  cases hg : goodB code mem.length most with
  | true =>
    have hw := runI_wf (els_wf he) hlen most.toNat (St0_wf hs.in64)
    exact (rRun_good w a c mem ca cc code most hg he hs hs.in64).mono fun e w' ⟨v', h1, h2, h3⟩ => ⟨v', h1, h2.sl hw.mem, hw, h3⟩
  | false => exact (rRun_bad w a c mem ca cc code most hg he).mono fun e w' ⟨h1, h3⟩ => ⟨_, h1, Rep.Sl.nil _ _, St0_nil, h3⟩

theorem subA_zero (a : Option Addr) (m : Nat) : subA a m 0 = a := by
  unfold subA
  split
  · rfl
  · cases a with
    | none => rfl
    | some ad => simp [Addr.add]
theorem few_any (w w0 : World) (v : Value) (xs : List Int) (hs : IntSl w0 v xs) :
    Calls Try.prog 11 #[v] w fun e w' => (∃ u, e = .returned u ∧ IntSl w0 u (xs.take 1000)) ∧ w = w' := by
  obtain ⟨a, c, rfl⟩ := hs.form
  have hlen := hs.len
  have hcap : xs.length ≤ c := by obtain ⟨_, _, e, h, _⟩ := hs; cases e; exact h
  by_cases h0 : 1000 < xs.length
  · have ht := hs.take 1000 (by omega)
    have t0 : decide ((1000 : Int) < (xs.length : Int)) = true := by simp; omega
    have hsl := slice_hi w a xs.length c .i64 1000 (by decide) (by omega)
    rw [subA_zero] at hsl
    have HT := Lib.hid ht; clear ht hs
    go_enter Try.func11, Try.ntmps11
    go_wp2_with fail
    go_ret
    exact ⟨⟨_, rfl, HT.out⟩, rfl⟩
  · have t0 : decide ((1000 : Int) < (xs.length : Int)) = false := by simp; omega
    have HS := Lib.hid hs; clear hs
    go_enter Try.func11, Try.ntmps11
    go_wp2_with fail
    go_ret
    exact ⟨⟨_, rfl, by rw [List.take_of_length_le (by omega)]; exact HS.out⟩, rfl⟩
end Go.Proofs.Ytkgbjmmiomggbaa
