import Derived.Test.YtokghjnkfabgiaaGreatDoorTA9
import Derived.Test.YtokghjnkfabgiaaGreatDoorTA10
import Derived.Test.YtokghjnkfabgiaaGreatDoorTA1
namespace Go.Proofs.YtokghjnkfabgiaaGreatDoor
set_option maxRecDepth 100000
open Go.RowKit Go.Lib
set_option linter.unusedVariables false
set_option linter.unusedSimpArgs false
attribute [local go_sem] str_size str_get
attribute [local go_sem high] run_str_from run_str_to run_str_add

/-! lex.token. -/
def tkV (t : Tk) (a : Int) : Value := .agg #[.int .i64 t.kind, .int .i64 a, .string (str t.word), .int .i64 t.n]
theorem tokenf_any (b : UInt8) (w : World) : Calls Tryz.prog 43 #[.int .u8 (b.toNat : Int)] w fun e w' => e = .returned (.bool (isNameB b)) ∧ w' = w := by
  have h1 := letter_any b w
  have h2 := digit_any b w
  have hn : isNameB b = (isLetter b || isDigit b) := rfl
  rw [hn]
  generalize isLetter b = p1 at h1 ⊢
  generalize isDigit b = p2 at h2 ⊢
  have H1 := Lib.hid h1; have H2 := Lib.hid h2
  clear h1 h2 hn
  go_enter Tryz.func43, Tryz.ntmps43
  go_wp2_with (first
    | (go_at_call 42; refine H1.out.mono ?_; rintro e w' ⟨rfl, rfl⟩)
    | (go_at_call 44; refine H2.out.mono ?_; rintro e w' ⟨rfl, rfl⟩))
  all_goals (go_ret; refine ⟨ret_bool ?_, rfl⟩; simp_all)
/-- a token and how long it is; or a fault -/
def TokE (o : Option (Tk × Nat)) (e : Ending) : Prop := match o with
  | some p => e = .returned (.tuple #[tkV p.1 0, .int .i64 (p.2 : Int), .int .i64 0])
  | none => ∃ k s m n x, e = .returned (.tuple #[.agg #[.int .i64 k, .int .i64 0, .string s, .int .i64 m], .int .i64 n, .int .i64 x]) ∧ (x == 0) = false
theorem results_tk {tmps : Array Value} {w : World} (g : Nat) {a b c d x y : Value}
    (hp : tmps.getD 2 undef = .pointer (some ⟨g, 0, none⟩)) (hq : tmps.getD 3 undef = x) (hr : tmps.getD 4 undef = y) (hg : w.heap[g]? = some (.cells #[a, b, c, d] 39 (0, 0))) :
    (results Tryz.f25 tmps).run Tryz.prog w = .ok (.tuple #[.agg #[a, b, c, d], x, y]) w := by
  have hp' : tmps[2]?.getD undef = .pointer (some ⟨g, 0, none⟩) := by simpa using hp
  have hq' : tmps[3]?.getD undef = x := by simpa using hq
  have hr' : tmps[4]?.getD undef = y := by simpa using hr
  have h : Tryz.f25.results = #[.cell 2 39, .tmp 3, .tmp 4] := by rfl
  simp [results, h, hp', hq', hr', asAddr, run_loadVar_row w g 39 39 #[a, b, c, d] (0, 0) _ hg Tryz.underlying39 rfl (by kernel_rfl)]
theorem TokE.mk {o : Option (Tk × Nat)} {e : Ending} {w w' : World} (h : TokE o e) (hb : Below w.heap.size w w') : TokE o e ∧ Below w.heap.size w w' := ⟨h, hb⟩
set_option maxHeartbeats 2000000 in
theorem token_any (w : World) (ht : TabT w) (b : UInt8) (r : Str) (hl : (b :: r).length ≤ 65536) : Calls Tryz.prog 25 #[.string (str (b :: r))] w fun e w' => TokE (tokQ (b :: r)) e ∧ Below w.heap.size w w' := by
  rw [tok_parts]
  by_cases h10 : b = 10
  · rw [if_pos h10]
    subst h10
    go_enter Tryz.func25, Tryz.ntmps25
    go_wp2_with fail
    refine bodyPost_ret (results_tk _ rfl rfl rfl (World.alloc_heap_new _ _)) rfl ⟨rfl, ?_⟩
    exact (Below.refl _ _).alloc (Nat.le_refl _) _
  rw [if_neg h10]
  have hbe : ((b.toNat : Int) == 10) = false := by
    rw [beq_eq_false_iff_ne]; intro e; exact h10 (UInt8.toNat_inj.1 (by show b.toNat = 10; omega))
  have hlt := fun w => letter_any b w
  have hru := fun w => run_any w (b :: r) 43 isNameB (fun a w => callFunc_enter Tryz.func43 (by kernel_rfl) rfl a w) (by omega) (fun b w => tokenf_any b w)
  have hnu := fun (w' : World) (hw : Below w.heap.size w w') => number_any w' (ht.below hw) b r hl
  have hsi := fun w => sign_any w b r (by omega)
  have hsp := span_le isNameB (b :: r)
  have hsn : signN b r ≤ (b :: r).length := by
    unfold signN
    split
    · rename_i h
      cases r with
      | nil => cases h.2
      | cons c r => simp
    · split <;> simp
  generalize spanN isNameB (b :: r) = n at hru hsp ⊢
  generalize signN b r = m at hsi hsn ⊢
  generalize numQ b r = q at hnu ⊢
  obtain ⟨v, k, bad⟩ := q
  dsimp only at hnu ⊢
  have HR := Lib.hid hru; have HN := Lib.hid hnu; have HS := Lib.hid hsi
  cases hq : isLetter b with
  | true =>
    rw [hq] at hlt
    have HL := Lib.hid hlt
    clear hru hnu hsi hlt hq
    rw [if_pos rfl]
    by_cases h16 : 16 < n
    · rw [if_pos h16]
      go_enter Tryz.func25, Tryz.ntmps25
      go_wp2_with (first
        | (go_at_call 42; refine (HL.out _).mono ?_; rintro e w' ⟨rfl, rfl⟩)
        | (go_at_call 23; refine (HR.out _).mono ?_; rintro e w' ⟨rfl, rfl⟩))
      refine bodyPost_ret (results_tk _ rfl rfl rfl (World.alloc_heap_new _ _)) rfl ⟨⟨_, _, _, _, _, rfl, rfl⟩, ?_⟩
      exact (Below.refl _ _).alloc (Nat.le_refl _) _
    · rw [if_neg h16]
      go_enter Tryz.func25, Tryz.ntmps25
      go_wp2_with (first
        | (go_at_call 42; refine (HL.out _).mono ?_; rintro e w' ⟨rfl, rfl⟩)
        | (go_at_call 23; refine (HR.out _).mono ?_; rintro e w' ⟨rfl, rfl⟩))
      refine bodyPost_ret (results_tk _ rfl rfl rfl (World.alloc_heap_new _ _)) rfl ⟨rfl, ?_⟩
      exact (Below.refl _ _).alloc (Nat.le_refl _) _
  | false =>
    rw [hq] at hlt
    have HL := Lib.hid hlt
    clear hru hnu hsi hlt hq
    rw [if_neg (by decide)]
    cases bad with
    | true =>
      rw [if_pos rfl]
      rw [if_pos rfl] at HN
      go_enter Tryz.func25, Tryz.ntmps25
      go_wp2_with (first
        | (go_at_call 42; refine (HL.out _).mono ?_; rintro e w' ⟨rfl, rfl⟩))
      refine (HN.out _ ((Below.refl _ _).alloc (Nat.le_refl _) _)).mono ?_
      rintro e w1 ⟨rfl, hb1⟩
      have HR0 := Lib.hid (new1 hb1)
      have HB := Lib.hid (bNext hb1 ((Below.refl _ _).alloc (Nat.le_refl _) _))
      clear hb1 HN
      obtain ⟨G, hG⟩ : ∃ G, w.heap.size = G := ⟨_, rfl⟩
      rw [hG] at HR0 ⊢
      go_wp2_with (first | ((with_reducible show wpList _ _ _ ({ dst := none, op := Op.store 39 (.tmp 2) (.tmp _), type := _, pos := _, after := _, guard := _ } :: _) _ _); (refine wpList_storeW rfl 39 _ _ rfl G rfl _ _ rfl _ HR0.out (by kernel_rfl) (by rfl) (by rfl) ?_); intro w2 hr2 hg2))
      all_goals exact bodyPost_ret (results_tk G rfl rfl rfl hr2) rfl ⟨⟨_, _, _, _, _, rfl, rfl⟩, hG ▸ HB.out.grown hg2 HB.out.size (fun k hk => by cases hk; omega)⟩
    | false =>
      rw [if_neg (by decide)]
      rw [if_neg (by decide)] at HN
      by_cases hk : k = 0
      · subst hk
        rw [if_neg (by decide)]
        by_cases hm : m = 0
        · subst hm
          rw [if_pos rfl]
          go_enter Tryz.func25, Tryz.ntmps25
          go_wp2_with (first
            | (go_at_call 42; refine (HL.out _).mono ?_; rintro e w' ⟨rfl, rfl⟩))
          refine (HN.out _ ((Below.refl _ _).alloc (Nat.le_refl _) _)).mono ?_
          rintro e w1 ⟨rfl, hb1⟩
          have HR0 := Lib.hid (new1 hb1)
          have HB := Lib.hid (bNext hb1 ((Below.refl _ _).alloc (Nat.le_refl _) _))
          clear hb1 HN
          obtain ⟨G, hG⟩ : ∃ G, w.heap.size = G := ⟨_, rfl⟩
          rw [hG] at HR0 ⊢
          go_wp2_with (first
            | (go_at_call 46; refine (HS.out _).mono ?_; rintro e w' ⟨rfl, rfl⟩)
            | ((with_reducible show wpList _ _ _ ({ dst := none, op := Op.store 39 (.tmp 2) (.tmp _), type := _, pos := _, after := _, guard := _ } :: _) _ _); (refine wpList_storeW rfl 39 _ _ rfl G rfl _ _ rfl _ HR0.out (by kernel_rfl) (by rfl) (by rfl) ?_); intro w2 hr2 hg2))
          exact bodyPost_ret (results_tk G rfl rfl rfl hr2) rfl ⟨⟨_, _, _, _, _, rfl, rfl⟩, hG ▸ HB.out.grown hg2 HB.out.size (fun k hk => by cases hk; omega)⟩
        · rw [if_neg hm]
          have hm0 : ((m : Int) == 0) = false := by rw [beq_eq_false_iff_ne]; omega
          go_enter Tryz.func25, Tryz.ntmps25
          go_wp2_with (first
            | (go_at_call 42; refine (HL.out _).mono ?_; rintro e w' ⟨rfl, rfl⟩))
          refine (HN.out _ ((Below.refl _ _).alloc (Nat.le_refl _) _)).mono ?_
          rintro e w1 ⟨rfl, hb1⟩
          have HR0 := Lib.hid (new1 hb1)
          have HB := Lib.hid (bNext hb1 ((Below.refl _ _).alloc (Nat.le_refl _) _))
          clear hb1 HN
          obtain ⟨G, hG⟩ : ∃ G, w.heap.size = G := ⟨_, rfl⟩
          rw [hG] at HR0 ⊢
          go_wp2_with (first
            | (go_at_call 46; refine (HS.out _).mono ?_; rintro e w' ⟨rfl, rfl⟩)
            | ((with_reducible show wpList _ _ _ ({ dst := none, op := Op.store 39 (.tmp 2) (.tmp _), type := _, pos := _, after := _, guard := _ } :: _) _ _); (refine wpList_storeW rfl 39 _ _ rfl G rfl _ _ rfl _ HR0.out (by kernel_rfl) (by rfl) (by rfl) ?_); intro w2 hr2 hg2))
          exact bodyPost_ret (results_tk G rfl rfl rfl hr2) rfl ⟨rfl, hG ▸ HB.out.grown hg2 HB.out.size (fun k hk => by cases hk; omega)⟩
      · rw [if_pos hk]
        have hk0 : 0 < k := by omega
        go_enter Tryz.func25, Tryz.ntmps25
        go_wp2_with (first
          | (go_at_call 42; refine (HL.out _).mono ?_; rintro e w' ⟨rfl, rfl⟩))
        refine (HN.out _ ((Below.refl _ _).alloc (Nat.le_refl _) _)).mono ?_
        rintro e w1 ⟨rfl, hb1⟩
        have HR0 := Lib.hid (new1 hb1)
        have HB := Lib.hid (bNext hb1 ((Below.refl _ _).alloc (Nat.le_refl _) _))
        clear hb1 HN
        obtain ⟨G, hG⟩ : ∃ G, w.heap.size = G := ⟨_, rfl⟩
        rw [hG] at HR0 ⊢
        go_wp2_with (first | ((with_reducible show wpList _ _ _ ({ dst := none, op := Op.store 39 (.tmp 2) (.tmp _), type := _, pos := _, after := _, guard := _ } :: _) _ _); (refine wpList_storeW rfl 39 _ _ rfl G rfl _ _ rfl _ HR0.out (by kernel_rfl) (by rfl) (by rfl) ?_); intro w2 hr2 hg2))
        exact bodyPost_ret (results_tk G rfl rfl rfl hr2) rfl ⟨rfl, hG ▸ HB.out.grown hg2 HB.out.size (fun k hk => by cases hk; omega)⟩
end Go.Proofs.YtokghjnkfabgiaaGreatDoor

namespace Go.Proofs.YtokghjnkfabgiaaGreatDoor
set_option linter.unusedVariables false
set_option linter.unusedSimpArgs false
set_option maxRecDepth 100000
open Go.RowKit

/-- The numbers xs lie from address a on. -/
def IntsAt (k : IntKind) (w : World) (a : Option Addr) (xs : List Int) : Prop :=
  ∀ i, (h : i < xs.length) → ∃ b off, a = some ⟨b, off, none⟩ ∧ w.cell? ⟨b, off + i, none⟩ = some (.int k xs[i])

theorem IntsAt.nil (k : IntKind) (w : World) (a : Option Addr) : IntsAt k w a [] := fun i h => absurd h (Nat.not_lt_zero i)

theorem IntsAt.below {k : IntKind} {w w' : World} {B : Nat} {a : Option Addr} {xs : List Int} (h : IntsAt k w a xs) (hb : Below B w w') (hB : w.heap.size ≤ B) : IntsAt k w' a xs := by
  intro i hi
  obtain ⟨b, off, rfl, hc⟩ := h i hi
  have hl := World.block_lt_of_cell? w _ hc
  exact ⟨b, off, rfl, (hb.cell (p := ⟨b, off + i, none⟩) (Nat.lt_of_lt_of_le hl hB)).trans hc⟩

theorem IntsAt.drewN {k : IntKind} {w : World} {a : Option Addr} {xs : List Int} (h : IntsAt k w a xs) (n : Nat) : IntsAt k (w.drewN n) a xs := h
/-- v is a row of the call's own (from block B on) that reads as xs. -/
def RowI (B : Nat) (w : World) (v : Value) (xs : List Int) : Prop := w.ownsRow B 2 1 v xs.length (xs.map (Value.int .i64))
theorem RowI.nil (B : Nat) (w : World) : RowI B w (.slice none 0 0) [] := World.ownsRow_nil w B 2 1
/-- Such a row is a slice that reads as xs. -/
theorem RowI.slice {B : Nat} {w : World} {v : Value} {xs : List Int} (h : RowI B w v xs) : ∃ a cap, v = .slice a xs.length cap ∧ xs.length ≤ maxLen ∧ IntsAt .i64 w a xs := by
  obtain ⟨h1, ⟨hv, hn⟩ | ⟨g, cap, cur, hv, hB, hg, hnc, hcm, hcs, ht⟩⟩ := h
  · have hx : xs = [] := List.eq_nil_of_length_eq_zero hn
    subst hx
    exact ⟨none, 0, hv, Nat.zero_le _, IntsAt.nil _ _ _⟩
  · refine ⟨some ⟨g, 0, none⟩, cap, hv, Nat.le_trans hnc hcm, fun i hi => ⟨g, 0, rfl, ?_⟩⟩
    rw [Nat.zero_add, cell_of_row w g i cur 2 (0, 0) hg]
    have : (cur.toList.take (xs.length * 1))[i]? = some (.int .i64 xs[i]) := by rw [ht]; simp [hi]
    rw [List.getElem?_take, if_pos (by omega)] at this
    simpa using this
/-- It came back with a row of its own and a number. -/
def RetRow (B : Nat) (r : List Int × Int) (e : Ending) (w' : World) : Prop := ∃ v, e = .returned (.tuple #[v, .int .i64 r.2]) ∧ RowI B w' v r.1
theorem RowI.kept {B : Nat} {w w' : World} {v : Value} {xs : List Int} {row : Option Nat} (h : RowI B w v xs) (hg : w.grownBy w' row) (hne : v.ownBlock = none ∨ v.ownBlock ≠ row) : RowI B w' v xs := World.ownsRow.kept h hg hne
theorem grownBy_of_below {w w' : World} (h : Below w.heap.size w w') : w.grownBy w' none := ⟨h.os, h.tape, h.output, h.size, fun k hk _ => h.block k hk⟩
theorem RowI.below {B : Nat} {w w' : World} {v : Value} {xs : List Int} (h : RowI B w v xs) (hb : Below w.heap.size w w') : RowI B w' v xs :=
  h.kept (grownBy_of_below hb) (by cases v.ownBlock <;> simp)
theorem Tryz.info2 : (Tryz.prog.info? 2).map (fun i => (i.zero, i.size, i.bytes)) = some (some (.int .i64 0), 1, 8) := by kernel_rfl

/-- The builtin copy into a row that is known whole: what it leaves, and that no other block has turned. -/
theorem wpList_copy_grown {P : Program} {w : World} {ops : Array Oper} {rest : List Oper} {o : Oper} {a : Act} {Q : Exit → Act → World → Prop} (hgd : o.guard = none) (d s : Operand) (dT sT : TypeId)
    (ho : o.op = .call { callee := .builtin .copy, args := #[d, s], argTypes := #[dT, sT] }) (elem : TypeId) (hu : P.underlying dT = some (.slice elem)) (hsz : (P.info? elem).map (·.size) = some 1)
    (dp sp : Option Addr) (dLen dCap sLen sCap : Nat) (hd : a.eval d = .slice dp dLen dCap) (hs : a.eval s = .slice sp sLen sCap)
    (g off : Nat) (cur : List Value) (t : TypeId) (hg : w.heap[g]? = some (.cells cur.toArray t (0, 0))) (cs : List Value) (hn : cs.length = Nat.min sLen dLen)
    (hpos : 0 < cs.length → dp = some ⟨g, off, none⟩ ∧ ∃ ad, sp = some ad ∧ ∀ j v, cs[j]? = some v → w.cell? (ad.add j) = some v)
    (hfit : off + cs.length ≤ cur.length) (h1 : ∀ v ∈ cs, v.oneCell' = true)
    (h : ∀ w', Hid (w'.heap[g]? = some (.cells (splice cur off cs).toArray t (0, 0))) → w.grownBy w' (some g) → wpList P ops Q rest (a.put o.dst (goInt cs.length)) w') :
    wpList P ops Q (o :: rest) a w := by
  by_cases h0 : cs.length = 0
  · obtain rfl : cs = [] := List.eq_nil_of_length_eq_zero h0
    refine wpList_copy_nothing hgd d s dT sT ho elem hu hsz dp sp dLen dCap sLen sCap hd hs (by simpa using hn.symm) ?_
    exact h w (show _ = _ by simpa [splice] using hg) ⟨rfl, rfl, rfl, Nat.le_refl _, fun _ _ _ => rfl⟩
  · obtain ⟨rfl, ad, rfl, hsrc⟩ := hpos (by omega)
    refine wpList_copy_own hgd d s dT sT ho elem hu hsz g off dLen dCap ad sLen sCap hd hs cur.toArray t hg cs hn hsrc (by simpa using hfit) h1 ?_
    exact h _ (show _ = _ by simpa [splice] using setRow_heap w g _ _ t _ hg) ⟨rfl, rfl, rfl, by simp [World.setRow], fun k _ hk => setRow_other w g k _ (fun e => hk (by rw [e]))⟩

theorem splice_all {α : Type} (L cs : List α) (h : cs.length = L.length) : splice L 0 cs = cs := by
  unfold splice; rw [List.take_zero, List.nil_append, Nat.zero_add, List.drop_of_length_le (by omega), List.append_nil]

/-- What lies from an address on is the cells of a slice that reads as xs. -/
theorem IntsAt.src {k : IntKind} {w : World} {a : Option Addr} {xs : List Int} (h : IntsAt k w a xs) (h0 : 0 < xs.length) : ∃ ad, a = some ad ∧ ∀ j v, (xs.map (Value.int k))[j]? = some v → w.cell? (ad.add j) = some v := by
  obtain ⟨b, off, rfl, _⟩ := h 0 h0
  refine ⟨_, rfl, fun j v hv => ?_⟩
  have hj : j < xs.length := by
    by_cases hj : j < xs.length
    · exact hj
    · rw [List.getElem?_eq_none (by simpa using hj)] at hv; cases hv
  obtain ⟨b', off', e, hc⟩ := h j hj
  cases e
  rw [List.getElem?_map, List.getElem?_eq_getElem hj] at hv
  cases hv
  have : (⟨b, off, none⟩ : Addr).add j = ⟨b, off + j, none⟩ := by unfold Addr.add; split <;> simp_all
  rw [this]; exact hc
theorem oneCell_ints (k : IntKind) (xs : List Int) : ∀ v ∈ xs.map (Value.int k), v.oneCell' = true := by
  intro v hv; obtain ⟨x, _, rfl⟩ := List.mem_map.1 hv; rfl

/-- The address of a cut x[l:..] of a slice of capacity m. -/
def subA (a : Option Addr) (m l : Nat) : Option Addr := if m = l then a else a.map (·.add l)
theorem IntsAt.cut {k : IntKind} {w : World} {a : Option Addr} {xs : List Int} (h : IntsAt k w a xs) {m l n : Nat} (hm : xs.length ≤ m) : IntsAt k w (subA a m l) ((xs.drop l).take n) := by
  intro i hi
  rw [List.length_take, List.length_drop] at hi
  obtain ⟨b, off, rfl, hc⟩ := h (l + i) (by omega)
  refine ⟨b, off + l, ?_, ?_⟩
  · unfold subA
    rw [if_neg (by omega)]
    simp only [Option.map_some, Addr.add]
    split <;> simp_all
  · rw [List.getElem_take, List.getElem_drop, Nat.add_assoc]; exact hc
theorem sized2 (w : World) : (sizeOf (Tryz.prog.elem 42)).run Tryz.prog w = .ok 1 w := by kernel_rfl
theorem sliced_subA (a : Option Addr) (l h m : Nat) : sliced a l h m 1 = .slice (subA a m l) (h - l) (m - l) := by unfold sliced subA; rw [Nat.mul_one]
/-- x[l:h] of a []int64 -/
theorem slice_lh (w : World) (a : Option Addr) (len cap : Nat) (kl kh : IntKind) (l h : Int) (h0 : 0 ≤ l) (h1 : l ≤ h) (h2 : h ≤ cap) :
    (Instr.sliceAt 42 (.slice a len cap) (some (.int kl l)) (some (.int kh h)) none).run Tryz.prog w = .ok (.slice (subA a cap l.toNat) (h.toNat - l.toNat) (cap - l.toNat)) w := by
  rw [run_sliceAt_slice w 42 _ _ _ _ Tryz.underlying42, run_slice_lh w 42 a len cap Tryz.underlying42 kl kh l h h0 h1 h2, sized2]
  simp only [Result.andThen, sliced_subA]
/-- x[l:] of a []int64 -/
theorem slice_lo (w : World) (a : Option Addr) (len cap : Nat) (kl : IntKind) (l : Int) (h0 : 0 ≤ l) (h1 : l ≤ len) :
    (Instr.sliceAt 42 (.slice a len cap) (some (.int kl l)) none none).run Tryz.prog w = .ok (.slice (subA a cap l.toNat) (len - l.toNat) (cap - l.toNat)) w := by
  rw [run_sliceAt_slice w 42 _ _ _ _ Tryz.underlying42, run_slice_l w 42 a len cap Tryz.underlying42 kl l h0 h1, sized2]
  simp only [Result.andThen, sliced_subA]
/-- x[:h] of a []int64 -/
theorem slice_hi (w : World) (a : Option Addr) (len cap : Nat) (kh : IntKind) (h : Int) (h0 : 0 ≤ h) (h2 : h ≤ cap) :
    (Instr.sliceAt 42 (.slice a len cap) none (some (.int kh h)) none).run Tryz.prog w = .ok (.slice (subA a cap 0) h.toNat cap) w := by
  rw [run_sliceAt_slice w 42 _ _ _ _ Tryz.underlying42, run_slice_h w 42 a len cap Tryz.underlying42 kh h h0 h2, sized2]
  simp only [Result.andThen, sliced_subA, Nat.sub_zero]
/-- rows that share no block -/
def Apart (v u : Value) : Prop := v.ownBlock = none ∨ v.ownBlock ≠ u.ownBlock
/-- It came back with an array in memory of its own, and a number. -/
def RetArr (B : Nat) (r : (List Int × List Int) × Int) (e : Ending) (w' : World) : Prop :=
  ∃ v u, e = .returned (.tuple #[.agg #[v, u], .int .i64 r.2]) ∧ RowI B w' v r.1.1 ∧ RowI B w' u r.1.2 ∧ Apart v u

theorem IntsAt.lit (k : IntKind) (W : World) (t : TypeId) (xs : List Int) : IntsAt k (W.alloc (.cells (xs.map (Value.int k)).toArray t)) (some ⟨W.heap.size, 0, none⟩) xs := by
  intro i hi
  refine ⟨W.heap.size, 0, rfl, ?_⟩
  rw [Nat.zero_add, cell_of_row _ W.heap.size i _ t (0, 0) (World.alloc_heap_new W _)]
  simp [hi]
theorem IntsAt.lit2 (k : IntKind) (W : World) (o : Obj) (t : TypeId) (xs : List Int) : IntsAt k ((W.alloc o).alloc (.cells (xs.map (Value.int k)).toArray t)) (some ⟨W.heap.size + 1, 0, none⟩) xs := by
  have := IntsAt.lit k (W.alloc o) t xs
  rwa [World.size_alloc] at this
theorem IntsAt.lit1 (k : IntKind) (W : World) (o : Obj) (t : TypeId) (xs : List Int) : IntsAt k ((W.alloc (.cells (xs.map (Value.int k)).toArray t)).alloc o) (some ⟨W.heap.size, 0, none⟩) xs :=
  (IntsAt.lit k W t xs).below ((Below.refl _ _).alloc (Nat.le_refl _) o) (Nat.le_refl _)
end Go.Proofs.YtokghjnkfabgiaaGreatDoor
