import Derived.Test.YtokghjnkfabgiaaGreatDoorTA17
namespace Go.Proofs.YtokghjnkfabgiaaGreatDoor
set_option maxRecDepth 100000
open Go.RowKit Go.Lib
set_option linter.unusedVariables false
set_option linter.unusedSimpArgs false
attribute [local go_sem] str_size str_get str_toList

/-! parse.Name. -/
set_option maxHeartbeats 4000000 in
theorem Name_any (s : Str) (w : World) (ht : TabT w) (hm : s.length ≤ 9223372036854775807) : Calls Tryz.prog 37 #[.string (str s)] w fun e w' => e = .returned (.bool (nameW s)) ∧ Below w.heap.size w w' := by
  have hv := verb_any s w
  have hx := lex_any w ht s hm
  have hn : nameW s = (!(verbW s || decide (s = kwIn) || decide (s = kwOut)) && lexName s) := rfl
  have hl : ∀ q, lexP s = q → lexName s = (match q with | some [p] => p.1.kind == 1 && decide (p.1.word = s) | _ => false) := fun q h => by rw [← h]; rfl
  rw [hn]
  clear hn
  generalize lexName s = bl at hl ⊢
  have HL := Lib.hid hl
  clear hl
  generalize verbW s = bv at hv ⊢
  have HV := Lib.hid hv; have HX := Lib.hid hx
  clear hv hx ht
  cases hb : (bv || decide (s = kwIn) || decide (s = kwOut)) with
  | true =>
    rw [show (!true && _) = false from rfl]
    have hb2 : bv = true ∨ s = kwIn ∨ s = kwOut := by simpa [or_assoc] using hb
    clear hb
    rcases hb2 with rfl | rfl | rfl
    · go_enter Tryz.func37, Tryz.ntmps37
      go_wp2_with (go_at_call 62; refine HV.out.mono ?_; rintro e w' ⟨rfl, rfl⟩)
      go_ret
      exact ⟨rfl, Below.refl _ _⟩
    all_goals
      go_enter Tryz.func37, Tryz.ntmps37
      try rw [show str kwIn = str [105, 110] from rfl]
      try rw [show str kwOut = str [111, 117, 116] from rfl]
      go_wp2_with (go_at_call 62; refine HV.out.mono ?_; rintro e w' ⟨rfl, rfl⟩)
      all_goals (go_ret; refine ⟨?_, Below.refl _ _⟩; first | rfl | (exfalso; simp_all; done))
  | false =>
    have hb2 : bv = false ∧ s ≠ kwIn ∧ s ≠ kwOut := by simpa [and_assoc] using hb
    clear hb
    obtain ⟨rfl, h1, h2⟩ := hb2
    have e1 : (s == [105, 110]) = false := by rw [beq_eq_false_iff_ne]; exact h1
    have e2 : (s == [111, 117, 116]) = false := by rw [beq_eq_false_iff_ne]; exact h2
    clear h1 h2
    rw [show ∀ x : Bool, (!false && x) = x from fun _ => rfl]
    go_enter Tryz.func37, Tryz.ntmps37
    go_wp2_with (first
      | (go_at_call 62; refine HV.out.mono ?_; rintro e w' ⟨rfl, rfl⟩)
      | (go_at_call 8; fail))
    refine HX.out.mono ?_
    rintro e w1 ⟨hx, hb⟩
    have HB := Lib.hid hb
    clear HX HV hb
    obtain ⟨o, ho⟩ : ∃ o, lexP s = o := ⟨_, rfl⟩
    have hbl := HL.out o ho
    rw [ho] at hx
    clear ho HL
    cases o with
    | none =>
      obtain ⟨a, c, rfl, hc⟩ := hx
      obtain rfl : bl = false := hbl
      dsimp only
      go_wp2_with fail
      all_goals (go_ret; refine ⟨?_, (HB.out).alloc HB.out.size _⟩; first | rfl | (exfalso; simp_all; done))
    | some q =>
      obtain ⟨v, rfl, hrow⟩ := hx
      cases q with
      | nil =>
        obtain rfl : bl = false := hbl
        obtain ⟨a, c, rfl⟩ := hrow.form
        dsimp only
        go_wp2_with fail
        all_goals (go_ret; refine ⟨?_, (HB.out).alloc HB.out.size _⟩; first | rfl | (exfalso; simp_all; done))
      | cons p r =>
        cases r with
        | cons p2 r =>
          obtain rfl : bl = false := hbl
          obtain ⟨a, c, rfl⟩ := hrow.form
          have hne : (((p :: p2 :: r).length : Int) == 1) = false := by rw [beq_eq_false_iff_ne]; simp; omega
          dsimp only
          generalize (p :: p2 :: r).length = n at hne ⊢
          go_wp2_with fail
          all_goals (go_ret; refine ⟨?_, (HB.out).alloc HB.out.size _⟩; first | rfl | (exfalso; simp_all; done))
        | nil =>
          obtain ⟨⟨k, wd, n⟩, at_⟩ := p
          obtain rfl : bl = (k == 1 && decide (wd = s)) := hbl
          obtain ⟨g, sc, rfl, hg, hgl, e0, -, e2', -⟩ := row_one hrow
          have c0 : ∀ o, (w1.alloc o).cell? ⟨g, 0, none⟩ = some (.int .i64 k) := fun o => (World.cell?_alloc_lt _ _ _ hgl).trans e0
          have c2 : ∀ o, (w1.alloc o).cell? ⟨g, 2, none⟩ = some (.string (str wd)) := fun o => (World.cell?_alloc_lt _ _ _ hgl).trans e2'
          have x0 := c0 (.cells #[.int .i64 0, .int .i64 0] 28)
          have x2 := c2 (.cells #[.int .i64 0, .int .i64 0] 28)
          clear hrow e0 e2' c0 c2
          dsimp only at x0 x2 ⊢
          go_wp2_with fail
          all_goals (go_ret; refine ⟨ret_bool ?_, (HB.out).alloc HB.out.size _⟩)
          all_goals first | rfl | (simp_all [Bool.beq_eq_decide_eq]; done) | skip
end Go.Proofs.YtokghjnkfabgiaaGreatDoor

namespace Go.Proofs.YtokghjnkfabgiaaGreatDoor
set_option maxRecDepth 100000
open Go.RowKit Go.Lib
set_option linter.unusedVariables false
set_option linter.unusedSimpArgs false
attribute [local go_sem] str_size str_get str_toList

/-! (*line).at, peek, fault. -/
/-- the tokens that are left, without places -/
def restT (toks : List (Tk × Nat)) (n : Nat) : List Tk := (toks.drop n).map Prod.fst
/-- the line in block L: its tokens (a slice lv that was there when W0 was), the next one -/
structure LineI (W0 : World) (L : Nat) (lv : Value) (toks : List (Tk × Nat)) (e : Int) (w : World) (n : Nat) : Prop where
  size : W0.heap.size = L
  below : Below L W0 w
  row : tokR.Sl W0 lv toks
  box : w.heap[L]? = some (.cells #[lv, .int .i64 (n : Int), .int .i64 e] 62 (0, 0))
  hn : n ≤ toks.length
  small : toks.length ≤ 65536
  right : ∀ p ∈ toks, RightT p.1
section
variable {W0 w : World} {L n : Nat} {lv : Value} {toks : List (Tk × Nat)} {e : Int}
theorem LineI.cells (h : LineI W0 L lv toks e w n) : w.cell? ⟨L, 0, none⟩ = some lv ∧ w.cell? ⟨L, 1, none⟩ = some (.int .i64 (n : Int)) ∧ w.cell? ⟨L, 2, none⟩ = some (.int .i64 e) := by
  have h0 := cell_of_row w L 0 _ _ _ h.box
  have h1 := cell_of_row w L 1 _ _ _ h.box
  have h2 := cell_of_row w L 2 _ _ _ h.box
  exact ⟨h0, h1, h2⟩
theorem LineI.form (h : LineI W0 L lv toks e w n) : ∃ a c, lv = .slice a toks.length c := by
  obtain ⟨a, c, e, _⟩ := h.row
  exact ⟨a, c, e⟩
theorem LineI.next (h : LineI W0 L lv toks e w n) {w' : World} (hb : Below w.heap.size w w') : LineI W0 L lv toks e w' n := by
  have hl := (Array.getElem?_eq_some_iff.1 h.box).1
  exact ⟨h.size, h.below.trans (hb.mono (Nat.le_of_lt hl)), h.row, block_below h.box hb, h.hn, h.small, h.right⟩
theorem LineI.lt (h : LineI W0 L lv toks e w n) : L < w.heap.size := (Array.getElem?_eq_some_iff.1 h.box).1
/-- the next token -/
theorem LineI.tok (h : LineI W0 L lv toks e w n) (hn : n < toks.length) : ∃ b off c, lv = .slice (some ⟨b, off, none⟩) toks.length c ∧ b < L ∧
    w.cell? ⟨b, off + n * 4, none⟩ = some (.int .i64 toks[n].1.kind) ∧ w.cell? ⟨b, off + n * 4 + 1, none⟩ = some (.int .i64 (toks[n].2 : Int)) ∧ w.cell? ⟨b, off + n * 4 + 2, none⟩ = some (.string (str toks[n].1.word)) ∧ w.cell? ⟨b, off + n * 4 + 3, none⟩ = some (.int .i64 toks[n].1.n) := by
  obtain ⟨a, c, e, h1, h2, h3, hx⟩ := h.row
  obtain ⟨b, off, cs, e2, ⟨hcs, _⟩, hc⟩ := hx n hn
  subst e2
  have hk : ∀ j v, cs[j]? = some v → W0.cell? ⟨b, off + n * 4 + j, none⟩ = some v := hc
  have hb : b < L := by
    have := World.block_lt_of_cell? W0 _ (hk 0 _ (by rw [hcs]; rfl))
    rw [← h.size]; exact this
  have hk2 : ∀ j v, cs[j]? = some v → w.cell? ⟨b, off + n * 4 + j, none⟩ = some v := fun j v hj => (h.below.cell (p := ⟨b, off + n * 4 + j, none⟩) hb).trans (hk j v hj)
  subst hcs
  exact ⟨b, off, c, e, hb, hk2 0 _ rfl, hk2 1 _ rfl, hk2 2 _ rfl, hk2 3 _ rfl⟩
theorem rest_cons (hn : n < toks.length) : restT toks n = toks[n].1 :: restT toks (n + 1) := by
  unfold restT
  rw [List.drop_eq_getElem_cons hn]; rfl
theorem rest_nil (hn : ¬ n < toks.length) : restT toks n = [] := by
  unfold restT
  rw [List.drop_eq_nil_of_le (by omega)]; rfl
theorem rest_len : (restT toks n).length = toks.length - n := by unfold restT; simp
end
set_option maxHeartbeats 4000000 in
theorem at_any {W0 w : World} {L n : Nat} {lv : Value} {toks : List (Tk × Nat)} {e : Int} (h : LineI W0 L lv toks e w n) :
    Calls Tryz.prog 61 #[.pointer (some ⟨L, 0, none⟩)] w fun e w' => (∃ a, e = .returned (.int .i64 a)) ∧ Below w.heap.size w w' := by
  obtain ⟨c0, c1, c2⟩ := h.cells
  obtain ⟨a, c, rfl⟩ := h.form
  have hsm := h.small
  by_cases hn : n < toks.length
  · obtain ⟨b, off, c', e1, hb, t0, t1, t2, t3⟩ := h.tok hn
    cases e1
    generalize toks[n].1.kind = k at t0; generalize (toks[n].2 : Int) = at_ at t1
    have hn' : decide ((n : Int) < (toks.length : Int)) = true := decide_eq_true (by omega)
    clear h t0 t2 t3
    generalize toks.length = N at c0 hn hn' hsm
    go_enter Tryz.func61, Tryz.ntmps61
    go_upto_region 1 with fail
    go_quiet (fail)
    go_upto_region 2 with fail
    go_quiet (fail)
    go_wp2_with fail
    go_ret
    exact ⟨⟨_, rfl⟩, by first | exact Below.drewN _ _ | exact (Below.drewN _ _).trans (Below.drewN _ _)⟩
  · have hn' : decide ((n : Int) < (toks.length : Int)) = false := decide_eq_false (by omega)
    generalize toks.length = N at c0 hn hn' hsm
    clear h
    go_enter Tryz.func61, Tryz.ntmps61
    go_upto_region 1 with fail
    go_quiet (fail)
    go_wp2_with fail
    go_ret
    exact ⟨⟨_, rfl⟩, by first | exact Below.drewN _ _ | exact (Below.drewN _ _).trans (Below.drewN _ _)⟩
theorem set_block {w : World} {g k : Nat} {cs : Array Value} {t : TypeId} {v : Value} (h : w.heap[g]? = some (.cells cs t (0, 0))) : (w.setCell ⟨g, k, none⟩ v).heap[g]? = some (.cells (cs.setIfInBounds k v) t (0, 0)) := heap_setCell_same w g k _ _ _ h
theorem results_peek {tmps : Array Value} {w : World} (g : Nat) {cs : Array Value}
    (hp : tmps.getD 2 undef = .pointer (some ⟨g, 0, none⟩)) (hg : w.heap[g]? = some (.cells cs 39 (0, 0))) (hs : (Tryz.prog.info? 39).map (·.size) = some cs.size) :
    (results Tryz.f34 tmps).run Tryz.prog w = .ok (.agg cs) w := by
  have hp' : tmps[2]?.getD undef = .pointer (some ⟨g, 0, none⟩) := by simpa using hp
  have h : Tryz.f34.results = #[.cell 2 39] := by rfl
  simp [results, h, hp', asAddr, run_loadVar_row w g 39 39 cs (0, 0) _ hg Tryz.underlying39 rfl hs]
theorem results_fault {tmps : Array Value} {w : World} (g : Nat) {cs : Array Value}
    (hp : tmps.getD 4 undef = .pointer (some ⟨g, 0, none⟩)) (hg : w.heap[g]? = some (.cells cs 28 (0, 0))) (hs : (Tryz.prog.info? 28).map (·.size) = some cs.size) :
    (results Tryz.f35 tmps).run Tryz.prog w = .ok (.agg cs) w := by
  have hp' : tmps[4]?.getD undef = .pointer (some ⟨g, 0, none⟩) := by simpa using hp
  have h : Tryz.f35.results = #[.cell 4 28] := by rfl
  simp [results, h, hp', asAddr, run_loadVar_row w g 28 28 cs (0, 0) _ hg Tryz.underlying28 rfl hs]
set_option maxHeartbeats 4000000 in
theorem fault_any {W0 w : World} {L n : Nat} {lv : Value} {toks : List (Tk × Nat)} {e : Int} (h : LineI W0 L lv toks e w n) (x : Int) :
    Calls Tryz.prog 35 #[.pointer (some ⟨L, 0, none⟩), .int .i64 x] w fun e w' => (∃ a, e = .returned (.agg #[.int .i64 a, .int .i64 x])) ∧ Below w.heap.size w w' := by
  have ha := at_any (h.next ((Below.refl _ _).alloc (Nat.le_refl _) (.cells #[.int .i64 0, .int .i64 0] 28)))
  have HA := Lib.hid ha
  clear h ha
  go_enter Tryz.func35, Tryz.ntmps35
  go_wp2_with fail
  refine HA.out.mono ?_
  rintro e w1 ⟨⟨a, rfl⟩, hb1⟩
  have HX := Lib.hid (new1 hb1)
  have HB := Lib.hid (bNext hb1 ((Below.refl _ _).alloc (Nat.le_refl _) _))
  clear hb1 HA
  obtain ⟨G, hG⟩ : ∃ G, w.heap.size = G := ⟨_, rfl⟩
  rw [hG] at HX ⊢
  go_wp2_with (first | ((with_reducible show wpList _ _ _ ({ dst := none, op := Op.store 28 (.tmp 4) (.tmp _), type := _, pos := _, after := _, guard := _ } :: _) _ _); (refine wpList_storeW rfl 28 _ _ rfl G rfl _ _ rfl _ HX.out (by kernel_rfl) (by rfl) (by rfl) ?_); intro w2 hr2 hg2))
  exact bodyPost_ret (results_fault G rfl hr2 (by kernel_rfl)) rfl ⟨⟨a, rfl⟩, hG ▸ HB.out.grown hg2 HB.out.size (fun k hk => by cases hk; omega)⟩
set_option maxHeartbeats 4000000 in
theorem peek_any {W0 w : World} {L n : Nat} {lv : Value} {toks : List (Tk × Nat)} {e : Int} (h : LineI W0 L lv toks e w n) :
    Calls Tryz.prog 34 #[.pointer (some ⟨L, 0, none⟩)] w fun e w' => (∃ a, e = .returned (tkV (headT (restT toks n)) a)) ∧ Below w.heap.size w w' := by
  have hl := h.lt
  obtain ⟨a, c, rfl⟩ := h.form
  have hsm := h.small
  have h1 := h.next ((Below.refl _ _).alloc (Nat.le_refl _) (.cells #[.int .i64 0, .int .i64 0, .string ⟨#[]⟩, .int .i64 0] 39))
  obtain ⟨c0, c1, c2⟩ := h1.cells
  by_cases hn : n < toks.length
  · obtain ⟨b, off, c', e1, hb, t0, t1, t2, t3⟩ := h1.tok hn
    cases e1
    rw [rest_cons hn]
    show Calls Tryz.prog 34 _ _ fun e w' => (∃ a, e = .returned (tkV toks[n].1 a)) ∧ _
    unfold tkV
    generalize toks[n].1.kind = k at t0 ⊢; generalize (toks[n].2 : Int) = at_ at t1; generalize toks[n].1.word = wd at t2 ⊢; generalize toks[n].1.n = nn at t3 ⊢
    have hn' : decide ((n : Int) < (toks.length : Int)) = true := decide_eq_true (by omega)
    generalize toks.length = N at c0 hn hn' hsm
    clear h h1
    go_enter Tryz.func34, Tryz.ntmps34
    go_upto_region 1 with fail
    go_quiet (fail)
    go_upto_region 2 with fail
    go_region
    go_wp2_with fail
    have hx := World.alloc_heap_new w (.cells #[.int .i64 0, .int .i64 0, .string ⟨#[]⟩, .int .i64 0] 39)
    have hb0 : Below w.heap.size w (w.alloc (.cells #[.int .i64 0, .int .i64 0, .string ⟨#[]⟩, .int .i64 0] 39)) := (Below.refl _ _).alloc (Nat.le_refl _) _
    refine bodyPost_ret (results_peek _ rfl (set_block (set_block (set_block (set_block (show ((w.alloc (.cells #[.int .i64 0, .int .i64 0, .string ⟨#[]⟩, .int .i64 0] 39)).drewN _).heap[w.heap.size]? = _ from hx))))) (by kernel_rfl)) rfl ⟨⟨at_, rfl⟩, ?_⟩
    exact ((((hb0.trans (Below.drewN _ _)).setCell (Nat.le_refl _) _).setCell (Nat.le_refl _) _).setCell (Nat.le_refl _) _).setCell (Nat.le_refl _) _
  · rw [rest_nil hn]
    show Calls Tryz.prog 34 _ _ fun e w' => (∃ a, e = .returned (.agg #[.int .i64 4, .int .i64 a, .string (str []), .int .i64 0])) ∧ _
    have hn' : decide ((n : Int) < (toks.length : Int)) = false := decide_eq_false (by omega)
    generalize toks.length = N at c0 hn hn' hsm
    clear h h1
    go_enter Tryz.func34, Tryz.ntmps34
    go_upto_region 1 with fail
    go_quiet (fail)
    have hx := World.alloc_heap_new w (.cells #[.int .i64 0, .int .i64 0, .string ⟨#[]⟩, .int .i64 0] 39)
    have hb0 : Below w.heap.size w (w.alloc (.cells #[.int .i64 0, .int .i64 0, .string ⟨#[]⟩, .int .i64 0] 39)) := (Below.refl _ _).alloc (Nat.le_refl _) _
    have HX := Lib.hid (show ((w.alloc (.cells #[.int .i64 0, .int .i64 0, .string ⟨#[]⟩, .int .i64 0] 39)).drewN nq).heap[w.heap.size]? = _ from hx)
    have HB := Lib.hid (hb0.trans (Below.drewN _ nq))
    clear hx hb0
    obtain ⟨G, hG⟩ : ∃ G, w.heap.size = G := ⟨_, rfl⟩
    rw [hG] at HX ⊢
    go_wp2_with (first | ((with_reducible show wpList _ _ _ ({ dst := none, op := Op.store 39 (.tmp 2) (.tmp _), type := _, pos := _, after := _, guard := _ } :: _) _ _); (refine wpList_storeW rfl 39 _ _ rfl G rfl _ _ rfl _ HX.out (by kernel_rfl) (by rfl) (by rfl) ?_); intro w2 hr2 hg2))
    exact bodyPost_ret (results_peek G rfl hr2 (by kernel_rfl)) rfl ⟨⟨0, rfl⟩, hG ▸ HB.out.grown hg2 (by rw [hG]; exact Nat.le_of_lt (by rw [← hG]; simp)) (fun k hk => by cases hk; omega)⟩
end Go.Proofs.YtokghjnkfabgiaaGreatDoor
