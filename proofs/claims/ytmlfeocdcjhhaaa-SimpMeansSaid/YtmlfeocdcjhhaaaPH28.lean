import Derived.Test.YtmlfeocdcjhhaaaPH27
import Derived.Test.YtmlfeocdcjhhaaaPH18
import Derived.Deep.LoopGhost
namespace Go.Proofs.Ytmlfeocdcjhhaaa
set_option maxRecDepth 100000
open Go.RowKit
set_option linter.unusedVariables false
set_option linter.unusedSimpArgs false

/-- those with first number from a on -/
def restI (k a : Nat) (r : List Int) : List (List Int) := ((List.range' a (k - a)).map fun (i : Nat) => (idxs r).map fun x => (i : Int) :: x).flatten
/-- an index and those behind it -/
def fromI : List Int → List Int → List (List Int)
  | k :: r, a :: x => (fromI r x).map (a :: ·) ++ restI k.toNat (a.toNat + 1) r
  | _, _ => [[]]
theorem idxs_rest (k : Int) (r : List Int) : idxs (k :: r) = restI k.toNat 0 r := by
  rw [idxs, restI, List.range_eq_range']
  rfl
theorem rest_step {k a : Nat} (r : List Int) (h : a < k) : restI k a r = (idxs r).map (fun x => (a : Int) :: x) ++ restI k (a + 1) r := by
  unfold restI
  rw [show k - a = (k - (a + 1)) + 1 from by omega, List.range'_succ]
  rfl
theorem rest_none {k a : Nat} (r : List Int) (h : k ≤ a) : restI k a r = [] := by
  unfold restI
  rw [show k - a = 0 from by omega]
  rfl
def zerosI (l : List Int) : List Int := List.replicate l.length 0
theorem from_zeros : ∀ (l : List Int), (∀ k ∈ l, 0 < k) → fromI l (zerosI l) = idxs l
  | [], _ => rfl
  | k :: r, h => by
    have hk := h k (by simp)
    show (fromI r (zerosI r)).map (0 :: ·) ++ restI k.toNat 1 r = _
    rw [from_zeros r (fun x hx => h x (List.mem_cons_of_mem _ hx)), idxs_rest, rest_step (k := k.toNat) (a := 0) r (by omega)]
    rfl
/-- an index that is one -/
def IxOk (l at_ : List Int) : Prop := at_.length = l.length ∧ ∀ i, (h : i < at_.length) → (h2 : i < l.length) → 0 ≤ at_[i] ∧ at_[i] ≤ l[i] - 1
theorem IxOk.tail {k a : Int} {r x : List Int} (h : IxOk (k :: r) (a :: x)) : IxOk r x := ⟨by simpa using h.1, fun i h1 h2 => h.2 (i + 1) (by simpa using h1) (by simpa using h2)⟩
theorem from_last : ∀ (l at_ : List Int), IxOk l at_ → (∀ i, (h : i < at_.length) → (h2 : i < l.length) → at_[i] = l[i] - 1) → fromI l at_ = [at_]
  | [], [], _, _ => rfl
  | [], a :: x, h, _ => by have := h.1; simp at this
  | k :: r, [], h, _ => by have := h.1; simp at this
  | k :: r, a :: x, h, hl => by
    have h0 := h.2 0 (by simp) (by simp)
    have h1 := hl 0 (by simp) (by simp)
    simp only [List.getElem_cons_zero] at h0 h1
    rw [fromI, from_last r x h.tail (fun i h1 h2 => hl (i + 1) (by simpa using h1) (by simpa using h2)), rest_none r (by omega)]
    rfl
theorem from_step : ∀ (l at_ : List Int) (k : Nat) (hk : k < at_.length) (hk2 : k < l.length), (∀ n ∈ l, 0 < n) → IxOk l at_ → at_[k] ≠ l[k] - 1 → (∀ i, (h : i < at_.length) → (h2 : i < l.length) → k < i → at_[i] = l[i] - 1) →
    fromI l at_ = at_ :: fromI l (at_.take k ++ (at_[k] + 1) :: List.replicate (at_.length - k - 1) 0) ∧ IxOk l (at_.take k ++ (at_[k] + 1) :: List.replicate (at_.length - k - 1) 0)
  | [], _, k, _, hk2, _, _, _, _ => by simp at hk2
  | n :: r, [], k, hk, _, _, _, _, _ => by simp at hk
  | n :: r, a :: x, 0, _, _, hp, h, hne, hl => by
    have h0 := h.2 0 (by simp) (by simp)
    simp only [List.getElem_cons_zero] at h0 hne
    have hlen := h.tail.1
    have hx := from_last r x h.tail (fun i h1 h2 => hl (i + 1) (by simpa using h1) (by simpa using h2) (by omega))
    simp only [List.take_zero, List.nil_append, List.getElem_cons_zero, List.length_cons, Nat.sub_zero, Nat.add_sub_cancel]
    refine ⟨?_, ?_⟩
    · rw [fromI, hx, fromI]
      have hz : List.replicate x.length (0 : Int) = zerosI r := by unfold zerosI; rw [hlen]
      rw [hz, from_zeros r (fun y hy => hp y (List.mem_cons_of_mem _ hy)), rest_step r (show a.toNat + 1 < n.toNat by omega), show (a + 1).toNat + 1 = a.toNat + 1 + 1 from by omega, show ((a.toNat + 1 : Nat) : Int) = a + 1 from by omega]
      rfl
    · refine ⟨by simp [hlen], fun i h1 h2 => ?_⟩
      cases i with
      | zero => simp only [List.getElem_cons_zero]; omega
      | succ i =>
        simp only [List.getElem_cons_succ, List.getElem_replicate]
        have hi : i < r.length := by simpa using h2
        have := hp r[i] (List.mem_cons_of_mem _ (List.getElem_mem hi))
        omega
  | n :: r, a :: x, k + 1, hk, hk2, hp, h, hne, hl => by
    have h0 := h.2 0 (by simp) (by simp)
    simp only [List.getElem_cons_zero] at h0
    have ih := from_step r x k (by simpa using hk) (by simpa using hk2) (fun y hy => hp y (List.mem_cons_of_mem _ hy)) h.tail (by simpa using hne) (fun i h1 h2 h3 => hl (i + 1) (by simpa using h1) (by simpa using h2) (by omega))
    simp only [List.take_succ_cons, List.cons_append, List.getElem_cons_succ, List.length_cons, Nat.add_sub_add_right]
    refine ⟨?_, ?_⟩
    · rw [fromI, ih.1, fromI]
      rfl
    · refine ⟨by have := ih.2.1; simpa using this, fun i h1 h2 => ?_⟩
      cases i with
      | zero => simpa using h0
      | succ i =>
        simp only [List.getElem_cons_succ]
        exact ih.2.2 i (by simpa using h1) (by simpa using h2)
theorem IxOk.zeros {l : List Int} (hp : ∀ n ∈ l, 0 < n) : IxOk l (zerosI l) := ⟨by simp [zerosI], fun i h1 h2 => by
  simp only [zerosI, List.getElem_replicate]
  have := hp _ (List.getElem_mem h2)
  omega⟩
theorem idxs_zero : ∀ (l : List Int), (0 : Int) ∈ l → idxs l = []
  | [], h => by cases h
  | k :: r, h => by
    rw [idxs]
    rcases List.mem_cons.1 h with h | h
    · rw [← h]; rfl
    · rw [idxs_zero r h]
      simp
/-- states, one index behind the other -/
def runX {σ : Type} (f : List Int → σ → Ex σ) : List (List Int) → σ → Ex σ
  | [], s => .ok s
  | x :: r, s => (f x s).bind (runX f r)
end Go.Proofs.Ytmlfeocdcjhhaaa

namespace Go.Proofs.Ytmlfeocdcjhhaaa
set_option maxRecDepth 100000
open Go.RowKit
set_option linter.unusedVariables false
set_option linter.unusedSimpArgs false
attribute [local go_sem ↓] Go.wp_at_zero Go.wp_at_succ

/-- a block that holds just these numbers -/
def AtRow (w : World) (G : Nat) (ix : List Int) : Prop := w.heap[G]? = some (.cells (ix.map (Value.int .i64)).toArray 2 (0, 0))
theorem AtRow.cell {w : World} {G : Nat} {ix : List Int} (h : AtRow w G ix) {k : Nat} (hk : k < ix.length) : w.cell? ⟨G, k, none⟩ = some (.int .i64 ix[k]) := by
  rw [cell_of_row w G k _ _ _ h]
  simp [hk]
theorem AtRow.frozen {w : World} {G : Nat} {ix : List Int} (h : AtRow w G ix) (k : Nat) : w.frozen? ⟨G, k, none⟩ = false := frozen_of_row w G k _ _ h
theorem AtRow.set {w : World} {G : Nat} {ix : List Int} (h : AtRow w G ix) (k : Nat) (v : Int) : AtRow (w.setCell ⟨G, k, none⟩ (.int .i64 v)) G (ix.set k v) := by
  unfold AtRow
  rw [heap_setCell_same w G k _ _ _ h]
  simp [List.map_set]
theorem AtRow.row {w : World} {G : Nat} {ix : List Int} (h : AtRow w G ix) (hl : ix.length ≤ maxLen) {B : Nat} (hB : B ≤ G) : RowI B w (.slice (some ⟨G, 0, none⟩) ix.length ix.length) ix :=
  ⟨by simp, .inr ⟨G, ix.length, _, rfl, hB, h, Nat.le_refl _, hl, by simp, by simp [List.take_of_length_le]⟩⟩
theorem AtRow.kb {S : Nat → Prop} {w w' : World} {G : Nat} {ix : List Int} (h : AtRow w G ix) (hk : KB S w w') (hS : ¬ S G) : AtRow w' G ix := (hk.block G (block_lt h) hS).trans h
theorem IntsAt.kb {S : Nat → Prop} {w w' : World} {a : Option Addr} {xs : List Int} (h : IntsAt .i64 w a xs) (hk : KB S w w') (hS : ∀ b off, a = some ⟨b, off, none⟩ → ¬ S b) : IntsAt .i64 w' a xs := fun i hi => by
  obtain ⟨b, off, e, hc⟩ := h i hi
  exact ⟨b, off, e, (hk.cell (World.block_lt_of_cell? w _ hc) (hS b off e)).trans hc⟩
/-- what the states of a walk bear: Q's blocks are not written -/
structure WalkS {σ : Type} (B : Nat) (Q0 : Nat → Prop) (St : (Nat → Prop) → World → σ → Prop) : Prop where
  lt : ∀ Q w st, St Q w st → ∀ g, Q g → g < w.heap.size
  out : ∀ Q w w' st, St Q w st → Below w.heap.size w w' → St Q w' st
  more : ∀ Q w w' st g, St Q w st → w.heap.size ≤ g → g < w'.heap.size → Below w.heap.size w w' → St (fun x => Q x ∨ x = g) w' st
  less : ∀ Q' w st, (∀ g, Q0 g → Q' g) → St Q' w st → St Q0 w st
  set : ∀ Q w st g k u, St Q w st → Q g → B ≤ g → St Q (w.setCell ⟨g, k, none⟩ u) st
def DoE {σ : Type} (St : (Nat → Prop) → World → σ → Prop) (Q : Nat → Prop) (w : World) (r : Ex σ) (e : Ending) (w' : World) : Prop := match r with
  | .ok st => e = .returned (.tuple #[]) ∧ St Q w' st ∧ KB (fun g => ¬ Q g) w w'
  | .error n => e = panE n ∧ KB (fun g => ¬ Q g) w w'
theorem from_head : ∀ (l ix : List Int), ix.length = l.length → ∃ r, fromI l ix = ix :: r
  | [], [], _ => ⟨[], rfl⟩
  | k :: r, a :: x, h => by
    obtain ⟨r', e⟩ := from_head r x (by simpa using h)
    exact ⟨r'.map (a :: ·) ++ restI k.toNat (a.toNat + 1) r, by rw [fromI, e]; rfl⟩
  | [], _ :: _, h => by simp at h
  | _ :: _, [], h => by simp at h
theorem set_at (ix : List Int) (i n : Nat) (v : Int) (h : i < ix.length) : (ix.take (i + 1) ++ List.replicate n 0).set i v = ix.take i ++ v :: List.replicate n 0 := by
  have hl : (ix.take i).length = i := by rw [List.length_take]; omega
  rw [take_more h, List.append_assoc, List.set_append_right _ _ (by omega), hl, Nat.sub_self]
  rfl
set_option maxHeartbeats 16000000 in
theorem walk_any {σ : Type} (B : Nat) (St : (Nat → Prop) → World → σ → Prop) (Q : Nat → Prop) (hS : WalkS B Q St) (f : List Int → σ → Ex σ) (c1 c2 c3 c4 c5 : Value) (w : World) (st : σ) (la : Option Addr) (lc : Nat) (l : List Int)
    (hl : IntsAt .i64 w la l) (hlQ : ∀ b off, la = some ⟨b, off, none⟩ → Q b) (hn : l.length ≤ 4) (hpos : ∀ k ∈ l, 0 ≤ k ∧ k ≤ 65536) (h : St Q w st) (hB : B ≤ w.heap.size)
    (hdo : ∀ Q' W st' ix G, (∀ g, Q g → Q' g) → St Q' W st' → AtRow W G ix → Q' G → B ≤ G → IxOk l ix → Calls Try.prog 79 #[.slice (some ⟨G, 0, none⟩) ix.length ix.length, c1, c2, c3, c4, c5] W (DoE St Q' W (f ix st'))) :
    Calls Try.prog 78 #[.slice la l.length lc, .func (.func 79) #[] #[c1, c2, c3, c4, c5]] w (DoE St Q w (runX f (idxs l) st)) := by
  have hc := containsN w la lc l 0 (by omega) hl
  have HC := Lib.hid hc; have HDO := Lib.hid hdo; have HSS := Lib.hid hS; have HL := Lib.hid hl; have HLQ := Lib.hid hlQ; have HPOS := Lib.hid hpos; have H := Lib.hid h; have HBB := Lib.hid hB
  clear hc hdo hS hl hlQ hpos h hB
  obtain ⟨R, hR⟩ : ∃ R, runX f (idxs l) st = R := ⟨_, rfl⟩
  rw [hR]
  have HR := Lib.hid hR
  clear hR
  cases hz : l.any fun x => x == 0 with
  | true =>
    obtain ⟨x, hx, hx0⟩ := List.any_eq_true.1 hz
    obtain rfl : x = 0 := by simpa using hx0
    obtain rfl : R = .ok st := by rw [← HR.out, idxs_zero l hx]; rfl
    rw [hz] at HC
    clear hz hx hx0
    go_enter Try.func78, Try.ntmps78
    go_wp2_with (go_at_call 122; refine HC.out.mono ?_; rintro e w' ⟨rfl, rfl⟩)
    go_end0
    exact ⟨rfl, H.out, KB.refl _ _⟩
  | false =>
    rw [hz] at HC
    have hp : ∀ n ∈ l, 0 < n := fun n hn => by
      have h1 := HPOS.out n hn
      have h2 := List.any_eq_false.1 hz n hn
      simp at h2
      omega
    have HP := Lib.hid hp
    clear hz hp
    obtain ⟨ll, hll⟩ : ∃ n, l.length = n := ⟨_, rfl⟩
    rw [hll] at HC hn ⊢
    have HLL := Lib.hid hll
    clear hll
    obtain ⟨i0, hi, hz0, hz1, hz2⟩ := info_parts (show (Try.prog.info? 2).map (fun i => (i.zero, i.size, i.bytes)) = some (some (.int .i64 0), 1, 8) by kernel_rfl)
    have Hi := Lib.hid hi; have Hz0 := Lib.hid hz0; have Hz1 := Lib.hid hz1; have Hz2 := Lib.hid hz2
    clear hi hz0 hz1 hz2
    go_enter Try.func78, Try.ntmps78
    go_upto_region 1 with (go_at_call 122; refine HC.out.mono ?_; rintro e w' ⟨rfl, rfl⟩)
    go_wp2_with (at_make; refine wpList_make_full _ rfl _ _ 50 rfl w.heap.size 2 i0 (.int .i64 0) 1 Try.underlying50 Hi.out Hz0.out Hz1.out _ _ _ _ ll rfl rfl rfl rfl ?c2 ?c3 ?c4 ?_)
    case c2 => rw [Hz2.out]; omega
    case c3 => unfold maxLen; omega
    case c4 => exact Nat.le_refl _
    intro w1 hown hgrow
    obtain ⟨G, hG⟩ : ∃ G, w.heap.size = G := ⟨_, rfl⟩
    have hb1 : Below w.heap.size w w1 := (Below.refl _ _).grown hgrow (Nat.le_refl _) (by simp)
    rw [hG] at hown ⊢
    have har : AtRow w1 G (zerosI l) := by
      unfold AtRow
      rw [row_made hown]
      congr 2
      simp [rowOf, zerosI, HLL.out, List.map_const']
    have hst := HSS.out.more Q w w1 st G H.out (by omega) (block_lt har) hb1
    have hk1 : KB (fun g => ¬ Q g) w w1 := KB.of_below hb1 (fun g h1 h2 => absurd h2 (by omega))
    have hBG : B ≤ G := hG ▸ HBB.out
    have hGQ : ¬ Q G := fun h => by have := HSS.out.lt _ _ _ H.out G h; omega
    have HAR := Lib.hid har; have HST := Lib.hid hst; have HK1 := Lib.hid hk1; have HBG := Lib.hid hBG; have HGQ := Lib.hid hGQ
    have HG := Lib.hid hG
    clear hown hgrow hb1 har hst hk1 hBG hG hGQ
    have HR2 : Hid (runX f (fromI l (zerosI l)) st = R) := by rw [from_zeros l HP.out]; exact HR
    go_wp2_with fail
    go_loopg [5] ((fromI l (zerosI l)).length) (fun n v wr => ∃ (ix : List Int) (st' : σ), n = (fromI l ix).length ∧ IxOk l ix ∧ AtRow wr G ix ∧ runX f (fromI l ix) st' = R ∧ St (fun x => Q x ∨ x = G) wr st' ∧ KB (fun g => ¬ Q g) w wr)
    case atStart => exact ⟨_, st, rfl, IxOk.zeros HP.out, HAR.out, HR2.out, HST.out, HK1.out⟩
    case round =>
      obtain ⟨ix, st', hgk, hok, har, hrun, hst, hkb⟩ := hrel
      have hlen : ix.length = ll := by rw [hok.1, HLL.out]
      have hq := HDO.out _ wr st' ix G (fun g h => .inl h) hst har (.inr rfl) HBG.out hok
      rw [hlen] at hq
      have HQ := Lib.hid hq; have HGK := Lib.hid hgk; have HOK := Lib.hid hok; have HRUN := Lib.hid hrun; have HKB := Lib.hid hkb; have HLEN := Lib.hid hlen; have HAT := Lib.hid har
      clear hq hgk hok hrun hkb hlen har hst HAR HST HK1 HR2 HR
      cases hx : f ix st' with
      | error e =>
        rw [hx] at HQ
        have hR : R = .error e := by
          obtain ⟨r, hr⟩ := from_head l ix HOK.out.1
          rw [← HRUN.out, hr, runX, hx]
          rfl
        have HRE := Lib.hid hR
        clear hR hx
        go_wp2_with fail
        refine HQ.out.mono ?_
        rintro e' w2 ⟨rfl, hk2⟩
        unfold panE
        go_wp2_with fail
        exact ⟨rfl, by rw [HRE.out]; exact ⟨rfl, HKB.out.trans (hk2.mono fun g _ h e => h (.inl e))⟩⟩
      | ok st2 =>
        rw [hx] at HQ
        have HX := Lib.hid hx
        clear hx
        go_wp2_with fail
        refine HQ.out.mono ?_
        rintro e' w2 ⟨rfl, hst2, hk2⟩
        go_upto_region 3 with fail
        have HKB := Lib.hid (HKB.out.trans (hk2.mono fun g _ h e => h (.inl e)))
        have HAT := Lib.hid (HAT.out.kb hk2 (fun h => h (.inr rfl)))
        have HST := Lib.hid hst2
        clear hst2 hk2 HQ
        go_wp2_with fail
        obtain ⟨wo, hwo⟩ : ∃ wo : World, wo = wr := ⟨_, rfl⟩
        clear hwo
        go_loopw [5] (fun v wr => ∃ j : Nat, ((j = 0 ∧ v = .int .i64 (-1)) ∨ ∃ i : Nat, j = i + 1 ∧ v = .int .i64 (i : Int)) ∧ j ≤ ll ∧ (∀ i, (h : i < ix.length) → (h2 : i < l.length) → j ≤ i → ix[i] = l[i] - 1) ∧ AtRow wr G (ix.take j ++ List.replicate (ll - j) 0) ∧ St (fun x => Q x ∨ x = G) wr st2 ∧ KB (fun g => ¬ Q g) w wr) (fun v _ => (intOf v + 1).toNat)
        case atStart =>
          refine ⟨ll, ?_, Nat.le_refl _, fun i h h2 h3 => absurd h (by rw [HLEN.out]; omega), by rw [List.take_of_length_le (by rw [HLEN.out]; exact Nat.le_refl _), Nat.sub_self]; simpa using HAT.out, HST.out, HKB.out⟩
          by_cases h0 : ll = 0
          · subst h0
            exact .inl ⟨rfl, rfl⟩
          · exact .inr ⟨ll - 1, by omega, by congr 1; omega⟩
        case round =>
          obtain ⟨j, hj, hjl, hmax, har, hst, hkb⟩ := hrel
          have HMAX := Lib.hid hmax
          clear hmax HAT HST HKB
          rcases hj with ⟨rfl, rfl⟩ | ⟨i, rfl, rfl⟩
          · have hR : R = .ok st2 := by
              rw [← HRUN.out, from_last l ix HOK.out (fun i h h2 => HMAX.out i h h2 (Nat.zero_le _)), runX, HX.out]
              rfl
            have HRE := Lib.hid hR
            have HST := Lib.hid hst; have HKB := Lib.hid hkb
            clear hR hst hkb har
            go_wp2_with (go_quiet (fail))
            go_end0
            show DoE St Q w R _ _
            rw [HRE.out]
            exact ⟨rfl, HSS.out.less _ _ _ (fun g h => .inl h) (HSS.out.out _ _ _ _ HST.out (Below.drewN _ _)), HKB.out.drewN _⟩
          · have hii : i < ix.length := by rw [HLEN.out]; omega
            have hil : i < l.length := by rw [HLL.out]; omega
            have x1 := har.cell (k := i) (by simp [HLEN.out]; omega)
            have hgi : (ix.take (i + 1) ++ List.replicate (ll - (i + 1)) 0)[i]'(by simp [HLEN.out]; omega) = ix[i] := by
              rw [List.getElem_append_left (by simp; omega), List.getElem_take]
            rw [hgi] at x1
            obtain ⟨b, off, rfl, x2⟩ := (HL.out.kb hkb (fun b off e h => h (HLQ.out b off e))) i hil
            obtain ⟨va, hva⟩ : ∃ va, ix[i] = va := ⟨_, rfl⟩
            obtain ⟨vb, hvb⟩ : ∃ vb, l[i] = vb := ⟨_, rfl⟩
            have hb := HPOS.out _ (List.getElem_mem hil)
            have hab := HOK.out.2 i hii hil
            rw [hva] at x1; rw [hvb] at x2 hb; rw [hva, hvb] at hab
            have hf := har.frozen i
            have HVA := Lib.hid hva; have HVB := Lib.hid hvb; have HAT := Lib.hid har; have HST := Lib.hid hst; have HKB := Lib.hid hkb
            clear hgi hva hvb har hst hkb
            by_cases ht : va = vb - 1
            · have hT : (va == vb - 1) = true := by simpa using ht
              have HT := Lib.hid ht
              clear ht
              go_upto_region 5 with (go_quiet (fail))
              have HAT := Lib.hid (show AtRow (wr.drewN nq) G _ from HAT.out)
              have HST := Lib.hid (HSS.out.out _ _ _ _ HST.out (Below.drewN wr nq)); have HKB := Lib.hid (HKB.out.drewN nq)
              clear x1 x2 hf hT
              obtain ⟨w3, hw3⟩ : ∃ W, wr.drewN nq = W := ⟨_, rfl⟩
              rw [hw3] at HAT HST HKB ⊢
              clear hw3
              have hf := HAT.out.frozen i
              have x1 := HAT.out.cell (k := i) (by simp [HLEN.out]; omega)
              go_wp2_with fail
              go_roundw
              case rel =>
                have hset : (ix.take (i + 1) ++ List.replicate (ll - (i + 1)) (0 : Int)).set i 0 = ix.take i ++ List.replicate (ll - i) 0 := by
                  rw [set_at ix i _ 0 hii, show ll - i = (ll - (i + 1)) + 1 from by omega, List.replicate_succ]
                refine ⟨i, ?_, by omega, fun i2 h h2 h3 => ?_, by rw [← hset]; exact HAT.out.set i 0, HSS.out.set _ _ _ G i _ HST.out (.inr rfl) HBG.out, HKB.out.setCell (p := ⟨G, i, none⟩) (fun _ => HGQ.out) _⟩
                · by_cases h0 : i = 0
                  · subst h0
                    exact .inl ⟨rfl, rfl⟩
                  · exact .inr ⟨i - 1, by omega, by congr 1 <;> omega⟩
                · by_cases h4 : i2 = i
                  · subst h4; rw [HVA.out, HVB.out]; exact HT.out
                  · exact HMAX.out i2 h h2 (by omega)
              case measure => simp [intOf] <;> omega
            · have hT : (va == vb - 1) = false := by simpa using ht
              have HT := Lib.hid ht
              clear ht
              go_upto_region 7 with (go_quiet (fail))
              have HAT := Lib.hid (show AtRow (wr.drewN nq) G _ from HAT.out)
              have HST := Lib.hid (HSS.out.out _ _ _ _ HST.out (Below.drewN wr nq)); have HKB := Lib.hid (HKB.out.drewN nq)
              have x1 := keepCB (Below.drewN wr nq) (Nat.le_refl _) x1
              have hf := HAT.out.frozen i
              clear x2 hT
              obtain ⟨w3, hw3⟩ : ∃ W, wr.drewN nq = W := ⟨_, rfl⟩
              rw [hw3] at HAT HST HKB x1 hf ⊢
              clear hw3
              have hst := from_step l ix i hii hil HP.out HOK.out (by rw [HVA.out, HVB.out]; exact HT.out) (fun i2 h h2 h3 => HMAX.out i2 h h2 (by omega))
              rw [HVA.out, HLEN.out] at hst
              have hset : (ix.take (i + 1) ++ List.replicate (ll - (i + 1)) (0 : Int)).set i (va + 1) = ix.take i ++ (va + 1) :: List.replicate (ll - i - 1) 0 := by
                rw [set_at ix i _ _ hii, Nat.sub_sub]
              have HS2 := Lib.hid hst; have HSE := Lib.hid hset
              clear hst hset
              go_wp2_with fail
              go_roundg ((fromI l (ix.take i ++ (va + 1) :: List.replicate (ll - i - 1) 0)).length)
              case measure => rw [HGK.out, HS2.out.1]; simp
              case rel => exact ⟨_, st2, rfl, HS2.out.2, by rw [← HSE.out]; exact HAT.out.set i _, by
                rw [← HRUN.out, HS2.out.1, runX, HX.out]
                rfl, HSS.out.set _ _ _ G i _ HST.out (.inr rfl) HBG.out, HKB.out.setCell (p := ⟨G, i, none⟩) (fun _ => HGQ.out) _⟩
end Go.Proofs.Ytmlfeocdcjhhaaa

namespace Go.Proofs.Ytmlfeocdcjhhaaa
set_option maxRecDepth 100000
open Go.RowKit
set_option linter.unusedVariables false
set_option linter.unusedSimpArgs false
attribute [local go_sem ↓] Go.wp_at_zero Go.wp_at_succ

structure SQ where
  M : Nat
  sb : Nat
  mb : Nat
  nb : Nat
  pb : Nat
  lb : Nat
  kb : Nat
  pa : Option Addr
  pc : Nat
  la : Option Addr
  lc : Nat
  oa : Option Addr
  oc : Nat
  ka : Option Addr
  kc : Nat
  vals : List Value
  q : MQ
/-- the step's own blocks -/
def SQ.own (x : SQ) (g : Nat) : Prop := g = x.sb ∨ g = x.mb ∨ g = x.nb ∨ g = x.pb ∨ g = x.lb ∨ g = x.kb ∨ (Value.slice x.q.ma x.q.ml x.q.mc).ownBlock = some g ∨ ∃ v ∈ x.vals, v.ownBlock = some g
def rowBox (s : Stp) (x : SQ) : Array Value := #[.int .i64 s.how, .int .i64 s.buf, .slice x.pa s.pos.length x.pc, .slice x.la s.loops.length x.lc, .int .u8 s.fn, .slice x.oa s.ops.length x.oc]
def putF (x : SQ) : Value := .func (.func 76) #[] #[.pointer (some ⟨x.mb, 0, none⟩), .pointer (some ⟨x.sb, 0, none⟩), .pointer (some ⟨x.nb, 0, none⟩)]
/-- what does not turn in a step -/
structure StepC (wB : World) (B : Nat) (D : List Int) (s : Stp) (ks : List Int) (N : Nat) (x : SQ) : Prop where
  pos : monoRep.Els wB x.pa s.pos
  posl : s.pos.length ≤ 9223372036854775807
  ops : copRep.Els wB x.oa s.ops
  opsl : s.ops.length ≤ 256
  dep : 0 ≤ depthI s.ops
  opk : ∀ o ∈ s.ops, OpK s.loops.length N o
  grows : growsB s.pos = true
  buf : 0 ≤ s.buf ∧ s.buf < N
  dims : IntsAt .i64 wB x.q.ad D
  dimsl : D.length ≤ 6
  dimsB : dimsB D = true
  hi : wB.heap.size ≤ B
  own : ∀ g, x.own g → g < B
  MB : x.M < B
  sep : ∀ (i j : Nat) (v u : Value) (g : Nat), i ≠ j → x.vals[i]? = some v → x.vals[j]? = some u → v.ownBlock = some g → u.ownBlock ≠ some g
  lbr : ∀ v ∈ x.vals, v.ownBlock ≠ some x.lb
  ksl : ks.length = s.loops.length
  loops4 : s.loops.length ≤ 4
  ksb : ∀ k ∈ ks, 0 ≤ k ∧ k ≤ 65536
  kl : ∀ b off, x.ka = some ⟨b, off, none⟩ → b < B
/-- what does -/
structure StepSt (wB : World) (B : Nat) (D : List Int) (s : Stp) (ks : List Int) (N : Nat) (x : SQ) (Q : Nat → Prop) (w : World) (st : List (List Int) × Nat × Int) : Prop where
  mac : MacS (fun g => Q g ∨ x.own g) w x.M x.q D []
  mem : MemAt x.own w x.q.ma x.q.ml x.q.mc x.vals st.1
  memI : MemI st.1
  memN : st.1.length = N
  sbx : w.heap[x.sb]? = some (.cells (rowBox s x) 42 (0, 0))
  mbx : w.heap[x.mb]? = some (.cells #[.pointer (some ⟨x.M, 0, none⟩)] 79 (0, 0))
  nbx : w.heap[x.nb]? = some (.cells #[.int .i64 st.2.1] 3 (0, 0))
  pbx : w.heap[x.pb]? = some (.cells #[putF x] 119 (0, 0))
  lbx : w.heap[x.lb]? = some (.cells #[.int .i64 st.2.2] 2 (0, 0))
  kbx : w.heap[x.kb]? = some (.cells #[.slice x.ka ks.length x.kc] 50 (0, 0))
  kint : IntsAt .i64 w x.ka ks
  kQ : ∀ b off, x.ka = some ⟨b, off, none⟩ → Q b
  below : Below wB.heap.size wB w
  old : ∀ g, g < wB.heap.size → Q g
  dis : ∀ g, Q g → ¬ x.own g
  hB : B ≤ w.heap.size
  last : In64 st.2.2
  n : st.2.1 ≤ 9223372036854775807
section
variable {wB : World} {B : Nat} {D : List Int} {s : Stp} {ks : List Int} {N : Nat} {x : SQ} {Q Q' : Nat → Prop} {w w' : World} {st : List (List Int) × Nat × Int}
theorem own_sb (x : SQ) : x.own x.sb := .inl rfl
theorem own_mb (x : SQ) : x.own x.mb := .inr (.inl rfl)
theorem own_nb (x : SQ) : x.own x.nb := .inr (.inr (.inl rfl))
theorem own_pb (x : SQ) : x.own x.pb := .inr (.inr (.inr (.inl rfl)))
theorem own_lb (x : SQ) : x.own x.lb := .inr (.inr (.inr (.inr (.inl rfl))))
theorem own_kb (x : SQ) : x.own x.kb := .inr (.inr (.inr (.inr (.inr (.inl rfl)))))
theorem own_rowX {v : Value} (hv : v ∈ x.vals) {g : Nat} (hg : v.ownBlock = some g) : x.own g := .inr (.inr (.inr (.inr (.inr (.inr (.inr ⟨v, hv, hg⟩))))))
theorem StepSt.keep (h : StepSt wB B D s ks N x Q w st) (hk : KB (fun g => ¬ (Q g ∨ x.own g)) w w') (hm : MacS (fun g => Q g ∨ x.own g) w' x.M x.q D []) : StepSt wB B D s ks N x Q w' st := by
  have hb : ∀ g, Q g ∨ x.own g → w'.heap[g]? = w.heap[g]? := fun g hg => hk.stay h.mac.lt hg
  have hk2 : KB (fun g => ¬ x.own g) w w' := hk.mono fun g _ h1 h2 => h1 (.inr h2)
  exact ⟨hm, h.mem.keep hk2, h.memI, h.memN, (hb _ (.inr (own_sb x))).trans h.sbx, (hb _ (.inr (own_mb x))).trans h.mbx, (hb _ (.inr (own_nb x))).trans h.nbx, (hb _ (.inr (own_pb x))).trans h.pbx, (hb _ (.inr (own_lb x))).trans h.lbx, (hb _ (.inr (own_kb x))).trans h.kbx,
    h.kint.kb hk (fun b off e h2 => h2 (.inl (h.kQ b off e))), h.kQ, h.below.trans (hk.below h.below.size (fun g hg => Nat.le_of_not_lt fun e => hg (.inl (h.old g e)))), h.old, h.dis, Nat.le_trans h.hB hk.size, h.last, h.n⟩
theorem StepSt.out (h : StepSt wB B D s ks N x Q w st) (hb : Below w.heap.size w w') : StepSt wB B D s ks N x Q w' st :=
  h.keep (KB.of_below hb (fun g h1 h2 => absurd h2 (by omega))) (h.mac.out hb)
theorem MacS.more {P : Nat → Prop} {M : Nat} {q : MQ} {s : List Int} {g : Nat} (h : MacS P w M q D s) (hg : w.heap.size ≤ g) (hg2 : g < w'.heap.size) (hb : Below w.heap.size w w') : MacS (fun x => P x ∨ x = g) w' M q D s :=
  (h.new hb).less fun x hx => hx.elim .inl fun e => .inr ⟨by omega, by omega⟩
theorem StepSt.more (hc : StepC wB B D s ks N x) (h : StepSt wB B D s ks N x Q w st) {g : Nat} (hg : w.heap.size ≤ g) (hg2 : g < w'.heap.size) (hb : Below w.heap.size w w') : StepSt wB B D s ks N x (fun y => Q y ∨ y = g) w' st := by
  have h2 := h.out hb
  have hB := h.hB
  exact ⟨(h.mac.more hg hg2 hb).less fun y hy => hy.elim (fun e => e.elim (fun e => .inl (.inl e)) .inr) (fun e => .inl (.inr e)), h2.mem, h2.memI, h2.memN, h2.sbx, h2.mbx, h2.nbx, h2.pbx, h2.lbx, h2.kbx, h2.kint, fun b off e => .inl (h2.kQ b off e), h2.below, fun y hy => .inl (h2.old y hy),
    fun y hy e => hy.elim (fun h1 => h2.dis y h1 e) (fun h1 => by have := hc.own y e; omega), h2.hB, h2.last, h2.n⟩
theorem StepSt.less (h : StepSt wB B D s ks N x Q' w st) (hq : ∀ g, Q g → Q' g) (hold : ∀ g, g < wB.heap.size → Q g) (hk : ∀ b off, x.ka = some ⟨b, off, none⟩ → Q b) : StepSt wB B D s ks N x Q w st :=
  ⟨h.mac.less fun y hy => hy.elim (fun e => .inl (hq y e)) .inr, h.mem, h.memI, h.memN, h.sbx, h.mbx, h.nbx, h.pbx, h.lbx, h.kbx, h.kint, hk, h.below, hold, fun y hy => h.dis y (hq y hy), h.hB, h.last, h.n⟩
theorem MacS.put_other {P : Nat → Prop} {M : Nat} {q : MQ} {s : List Int} {g k : Nat} {u : Value} (h : MacS P w M q D s) (hg : g ≠ M) (hP : P g) : MacS P (w.setCell ⟨g, k, none⟩ u) M q D s := by
  obtain ⟨v, h1, h2, h3⟩ := h.row
  refine ⟨⟨v, block_other h1 (p := ⟨g, k, none⟩) hg _, ?_, h3⟩, h.nM, by simpa using h.lt, h.in64⟩
  obtain ⟨e1, h4 | ⟨g', cap, cur, rfl, hb', hg', h4⟩⟩ := h2
  · exact ⟨e1, .inl h4⟩
  · exact ⟨e1, .inr ⟨g', cap, cur, rfl, hb', block_other hg' (p := ⟨g, k, none⟩) (fun e => h3 g' rfl (e ▸ hP)) _, h4⟩⟩
theorem kb_set {S : Nat → Prop} {g k : Nat} {u : Value} (hs : S g) : KB S w (w.setCell ⟨g, k, none⟩ u) := (KB.refl S w).setCell (p := ⟨g, k, none⟩) (fun _ => hs) u
theorem StepSt.set (hc : StepC wB B D s ks N x) (h : StepSt wB B D s ks N x Q w st) {g k : Nat} {u : Value} (hg : Q g) (hgB : B ≤ g) : StepSt wB B D s ks N x Q (w.setCell ⟨g, k, none⟩ u) st := by
  have ho : ∀ y, x.own y → y ≠ g := fun y hy e => by have := hc.own y hy; omega
  have hb : ∀ y, x.own y → (w.setCell ⟨g, k, none⟩ u).heap[y]? = w.heap[y]? := fun y hy => Below.heap_setCell _ _ _ _ (ho y hy)
  have hk2 : KB (fun y => ¬ x.own y) w (w.setCell ⟨g, k, none⟩ u) := kb_set (fun e => ho g e rfl)
  have hk3 : KB (fun y => y = g) w (w.setCell ⟨g, k, none⟩ u) := kb_set rfl
  refine ⟨h.mac.put_other (fun e => by have := hc.MB; omega) (.inl hg), h.mem.keep hk2, h.memI, h.memN, (hb _ (own_sb x)).trans h.sbx, (hb _ (own_mb x)).trans h.mbx, (hb _ (own_nb x)).trans h.nbx, (hb _ (own_pb x)).trans h.pbx, (hb _ (own_lb x)).trans h.lbx, (hb _ (own_kb x)).trans h.kbx,
    h.kint.kb hk3 (fun b off e h2 => by have := hc.kl b off e; omega), h.kQ, h.below.trans (hk3.below h.below.size (fun y hy => by have := hc.hi; omega)), h.old, h.dis, by simpa using h.hB, h.last, h.n⟩
end
theorem step_walkS {wB : World} {B : Nat} {D : List Int} {s : Stp} {ks : List Int} {N : Nat} {x : SQ} (Q0 : Nat → Prop) (hc : StepC wB B D s ks N x) (hold : ∀ g, g < wB.heap.size → Q0 g) (hk : ∀ b off, x.ka = some ⟨b, off, none⟩ → Q0 b) :
    WalkS B Q0 (StepSt wB B D s ks N x) where
  lt := fun Q w st h g hg => h.mac.lt g (.inl hg)
  out := fun Q w w' st h hb => h.out hb
  more := fun Q w w' st g h h1 h2 hb => h.more hc h1 h2 hb
  less := fun Q' w st hq h => h.less hq hold hk
  set := fun Q w st g k u h hg hgB => h.set hc hg hgB
end Go.Proofs.Ytmlfeocdcjhhaaa

namespace Go.Proofs.Ytmlfeocdcjhhaaa
set_option maxRecDepth 100000
open Go.RowKit
set_option linter.unusedVariables false
set_option linter.unusedSimpArgs false
attribute [local go_sem ↓] Go.wp_at_zero Go.wp_at_succ

theorem cells_ty {cs cs' : Array Value} {t t' : TypeId} {f f' : Nat × Nat} (h : some (Obj.cells cs t f) = some (.cells cs' t' f')) : t = t' := by
  injection h with h
  injection h
theorem RowI.setJ {w : World} {B g c : Nat} {xs : List Int} (h : RowI B w (.slice (some ⟨g, 0, none⟩) xs.length c) xs) (j : Nat) (v : Int) : RowI B (w.setCell ⟨g, j, none⟩ (.int .i64 v)) (.slice (some ⟨g, 0, none⟩) xs.length c) (xs.set j v) := by
  obtain ⟨e1, ⟨h4, _⟩ | ⟨g', cap, cur, hv, hb', hg', h5, h6, h7, h8⟩⟩ := h
  · cases h4
  · cases hv
    refine ⟨by simp, .inr ⟨g, c, cur.setIfInBounds j (.int .i64 v), by rw [List.length_set], hb', by rw [heap_setCell_same w g j _ _ _ hg'], by simpa using h5, h6, by simpa using h7, ?_⟩⟩
    rw [List.length_set, Array.toList_setIfInBounds, List.take_set, h8, List.map_set]
theorem RowI.head {w : World} {B : Nat} {v : Value} {xs : List Int} (h : RowI B w v xs) (hx : 0 < xs.length) : ∃ g c, v = .slice (some ⟨g, 0, none⟩) xs.length c := by
  obtain ⟨e1, ⟨h4, h5⟩ | ⟨g', cap, cur, hv, _⟩⟩ := h
  · omega
  · exact ⟨g', cap, hv⟩
theorem MemAt.cellv {P : Nat → Prop} {w : World} {ma : Option Addr} {ml mc : Nat} {vals : List Value} {mem : List (List Int)} (h : MemAt P w ma ml mc vals mem) {hb k : Nat} (hma : ma = some ⟨hb, 0, none⟩) {v : Value} (hv : vals[k]? = some v) : w.cell? ⟨hb, k, none⟩ = some v := by
  obtain ⟨h1, ⟨h2, h3⟩ | ⟨g, cap, cur, hv2, hb2, hg, h4, h5, h6, h7⟩⟩ := h.hdr
  · rw [hma] at h2; cases h2
  · rw [hma] at hv2
    cases hv2
    rw [cell_of_row w hb k _ _ _ hg]
    have hk : k < mem.length * 1 := by rw [← h1]; exact (List.getElem?_eq_some_iff.1 hv).1
    rw [← h7, List.getElem?_take_of_lt hk] at hv
    simpa using hv
section
variable {wB : World} {B : Nat} {D : List Int} {s : Stp} {ks : List Int} {N : Nat} {x : SQ} {Q Q' : Nat → Prop} {w w' : World}
theorem StepSt.put {mem : List (List Int)} {n : Nat} {last : Int} (hc : StepC wB B D s ks N x) (h : StepSt wB B D s ks N x Q w (mem, n, last)) {b rb rc j : Nat} (hb : b < mem.length) (hv : x.vals[b]? = some (.slice (some ⟨rb, 0, none⟩) mem[b].length rc)) {v : Int} (hv64 : In64 v) (hn : n + 1 ≤ 9223372036854775807) :
    StepSt wB B D s ks N x Q ((w.setCell ⟨rb, j, none⟩ (.int .i64 v)).setCell ⟨x.nb, 0, none⟩ (.int .i64 ((n + 1 : Nat) : Int))) (mem.set b (mem[b].set j v), n + 1, last) ∧ KB (fun g => ¬ Q g) w ((w.setCell ⟨rb, j, none⟩ (.int .i64 v)).setCell ⟨x.nb, 0, none⟩ (.int .i64 ((n + 1 : Nat) : Int))) := by
  have hmem : (Value.slice (some ⟨rb, 0, none⟩) mem[b].length rc) ∈ x.vals := List.mem_of_getElem? hv
  have hob : x.own rb := own_rowX hmem rfl
  obtain ⟨u, e, hr, hp⟩ := h.mem.row b hb
  rw [hv] at e
  cases e
  -- types tell the blocks apart
  have hty : ∃ cur, w.heap[rb]? = some (.cells cur 2 (0, 0)) := own_typed hr rfl
  obtain ⟨cur, hcur⟩ := hty
  have hne : ∀ {y : Nat} {cs : Array Value} {t : TypeId}, w.heap[y]? = some (.cells cs t (0, 0)) → t ≠ 2 → y ≠ rb := fun hy ht e => by subst e; rw [hcur] at hy; exact ht (cells_ty hy).symm
  have hnn : ∀ {y : Nat} {cs : Array Value} {t : TypeId}, w.heap[y]? = some (.cells cs t (0, 0)) → t ≠ 3 → y ≠ x.nb := fun hy ht e => by subst e; rw [h.nbx] at hy; exact ht (cells_ty hy).symm
  have hlr : x.lb ≠ rb := fun e => hc.lbr _ hmem (by rw [e]; rfl)
  obtain ⟨w1, hw1⟩ : ∃ w1, w.setCell ⟨rb, j, none⟩ (.int .i64 v) = w1 := ⟨_, rfl⟩
  have k1 : KB (fun y => y = rb) w w1 := hw1 ▸ kb_set rfl
  have k2 : KB (fun y => y = x.nb) w1 (w1.setCell ⟨x.nb, 0, none⟩ (.int .i64 ((n + 1 : Nat) : Int))) := kb_set rfl
  have k3 : KB (fun y => y = rb ∨ y = x.nb) w (w1.setCell ⟨x.nb, 0, none⟩ (.int .i64 ((n + 1 : Nat) : Int))) := (k1.mono fun _ _ e => .inl e).trans (k2.mono fun _ _ e => .inr e)
  have kQ : KB (fun g => ¬ Q g) w (w1.setCell ⟨x.nb, 0, none⟩ (.int .i64 ((n + 1 : Nat) : Int))) := k3.mono fun y _ e hq => h.dis y hq (e.elim (fun e => e ▸ hob) (fun e => e ▸ own_nb x))
  obtain ⟨v7, hM, -, -⟩ := h.mac.row
  have nb1 : w1.heap[x.nb]? = some (.cells #[.int .i64 n] 3 (0, 0)) := (k1.block _ (block_lt h.nbx) (hne h.nbx (by decide))).trans h.nbx
  have mac1 : MacS (fun g => Q g ∨ x.own g) w1 x.M x.q D [] := hw1 ▸ h.mac.put_other (fun e => hne hM (by decide) e.symm) (.inr hob)
  have mac2 := mac1.put_other (g := x.nb) (k := 0) (u := .int .i64 ((n + 1 : Nat) : Int)) (fun e => by
    have := (k1.block _ (block_lt hM) (hne hM (by decide))).trans hM
    rw [← e, nb1] at this; exact absurd (cells_ty this) (by decide)) (.inr (own_nb x))
  rw [hw1]
  have st3 : ∀ {y : Nat} {cs : Array Value} {t : TypeId}, w.heap[y]? = some (.cells cs t (0, 0)) → y ≠ rb → y ≠ x.nb → (w1.setCell ⟨x.nb, 0, none⟩ (.int .i64 ((n + 1 : Nat) : Int))).heap[y]? = some (.cells cs t (0, 0)) := fun hy h1 h2 => (k3.block _ (block_lt hy) (fun e => e.elim h1 h2)).trans hy
  refine ⟨⟨mac2, ⟨?_, h.mem.hP, ?_⟩, ?_, by rw [List.length_set]; exact h.memN, st3 h.sbx (hne h.sbx (by decide)) (hnn h.sbx (by decide)), st3 h.mbx (hne h.mbx (by decide)) (hnn h.mbx (by decide)), ?_, st3 h.pbx (hne h.pbx (by decide)) (hnn h.pbx (by decide)), st3 h.lbx hlr (hnn h.lbx (by decide)),
    st3 h.kbx (hne h.kbx (by decide)) (hnn h.kbx (by decide)), h.kint.kb kQ (fun b off e h2 => h2 (h.kQ b off e)), h.kQ, h.below.trans (kQ.below h.below.size (fun g hg => Nat.le_of_not_lt fun e => hg (h.old g e))), h.old, h.dis, Nat.le_trans h.hB kQ.size, h.last, hn⟩, kQ⟩
  · rw [List.length_set]
    refine k3.row h.mem.hdr (fun g hg e => ?_)
    obtain ⟨cur2, hc2⟩ := own_typed h.mem.hdr hg
    exact e.elim (hne hc2 (by decide)) (hnn hc2 (by decide))
  · intro k hk
    rw [List.length_set] at hk
    obtain ⟨u, e, hr2, hp2⟩ := h.mem.row k hk
    refine ⟨u, e, ?_, hp2⟩
    by_cases hkb : k = b
    · subst hkb
      rw [hv] at e
      cases e
      rw [List.getElem_set_self]
      have h3 := hr.setJ j v
      rw [hw1] at h3
      exact k2.row h3 (fun g hg e => by
        cases hg
        exact hnn hcur (by decide) e)
    · rw [List.getElem_set_ne (Ne.symm hkb)]
      refine k3.row hr2 (fun g hg e => ?_)
      obtain ⟨cur2, hc2⟩ := own_typed hr2 hg
      rcases e with e | e
      · exact hc.sep b k _ _ rb (Ne.symm hkb) hv ‹_› rfl (by rw [← e]; exact hg)
      · exact hnn hc2 (by decide) e
  · intro r hr y hy
    rcases List.mem_or_eq_of_mem_set hr with h1 | h1
    · exact h.memI r h1 y hy
    · subst h1
      rcases List.mem_or_eq_of_mem_set hy with h2 | h2
      · exact h.memI _ (List.getElem_mem hb) y h2
      · subst h2; exact hv64
  · rw [heap_setCell_same w1 x.nb 0 _ _ _ nb1]
    rfl
end
set_option maxHeartbeats 16000000 in
theorem put_any {wB : World} {B : Nat} {D : List Int} {s : Stp} {ks : List Int} {N : Nat} {x : SQ} {Q : Nat → Prop} {w : World} (mem : List (List Int)) (n : Nat) (last : Int) (hc : StepC wB B D s ks N x) (h : StepSt wB B D s ks N x Q w (mem, n, last)) (v : Int) (hv64 : In64 v) :
    Calls Try.prog 76 #[.int .i64 v, .pointer (some ⟨x.mb, 0, none⟩), .pointer (some ⟨x.sb, 0, none⟩), .pointer (some ⟨x.nb, 0, none⟩)] w (DoE (StepSt wB B D s ks N x) Q w ((putR D s mem n v).map fun m => (m, n + 1, last))) := by
  obtain ⟨R, hR⟩ : ∃ R, ((putR D s mem n v).map fun m => (m, n + 1, last)) = R := ⟨_, rfl⟩
  rw [hR]
  have HRR := Lib.hid hR
  clear hR
  obtain ⟨v7, hM, -, -⟩ := h.mac.row
  have hval := rval_any w x.M x.q D v7 hM x.pa x.pc s.pos 121 (hc.pos.below monoRep h.below (Nat.le_refl _)) hc.posl (hc.dims.below h.below (Nat.le_refl _)) (by have := hc.dimsl; omega)
  obtain ⟨r, hr⟩ : ∃ r, valR D s.pos 121 = r := ⟨_, rfl⟩
  rw [hr] at hval
  have hput : putR D s mem n v = r.bind fun tt => if ((mem.getD s.buf.toNat []).length : Int) ≤ tt ∨ ((mem.getD s.buf.toNat []).length : Int) - tt ≤ n then .error 121 else .ok (mem.set s.buf.toNat ((mem.getD s.buf.toNat []).set (tt + n).toNat v)) := by unfold putR; rw [hr]
  have H := Lib.hid h; have HC := Lib.hid hc; have HV := Lib.hid hval; have HP := Lib.hid hput
  have m0 := cell_of_row w x.mb 0 _ _ _ h.mbx
  have s2 : w.cell? ⟨x.sb, 2, none⟩ = some (.slice x.pa s.pos.length x.pc) := by rw [cell_of_row w x.sb 2 _ _ _ h.sbx]; rfl
  obtain ⟨pl, hpl⟩ : ∃ n, s.pos.length = n := ⟨_, rfl⟩
  rw [hpl] at s2 HV
  have htt : ∀ tt, r = .ok tt → 0 ≤ tt ∧ tt ≤ 9223372036854775807 := fun tt e => by
    subst e
    refine ⟨valR_nn hc.dimsB hc.grows hr, ?_⟩
    unfold valR at hr
    split at hr
    · cases hr; exact (evalS_in hc.dimsB s.pos).2
    · cases hr
  have HTT := Lib.hid htt; have HV64 := Lib.hid hv64
  clear h hc hval hput hr hM hpl htt hv64
  cases r with
  | error e =>
    obtain rfl : R = .error e := by rw [← HRR.out, HP.out]; rfl
    unfold endV panE at HV
    dsimp only at HV
    go_enter Try.func76, Try.ntmps76
    go_wp2_with (go_at_call 77; refine HV.out.mono ?_; rintro e w1 ⟨rfl, hb1⟩)
    exact ⟨rfl, rfl, KB.of_below hb1 (fun g h1 h2 => absurd h2 (by omega))⟩
  | ok tt =>
    unfold endV at HV
    dsimp only at HV
    obtain ⟨ht0, ht1⟩ := HTT.out tt rfl
    go_enter Try.func76, Try.ntmps76
    go_upto_region 1 with (go_at_call 77; refine HV.out.mono ?_; rintro e w1 ⟨rfl, hb1⟩)
    have h1 := H.out.out hb1
    have HKB := Lib.hid (KB.of_below (S := fun g => ¬ Q g) hb1 (fun g h1 h2 => absurd h2 (by omega)))
    clear m0 s2 HV H hb1 HTT
    obtain ⟨hb0, hbN⟩ := HC.out.buf
    obtain ⟨b, hbb⟩ : ∃ b : Nat, s.buf = b := ⟨s.buf.toNat, by omega⟩
    have hbm : b < mem.length := by have : mem.length = N := h1.memN; omega
    have hget : mem.getD s.buf.toNat [] = mem[b] := by rw [hbb, Int.toNat_natCast, List.getD_eq_getElem?_getD, List.getElem?_eq_getElem hbm]; rfl
    have hput := HP.out
    rw [hget, hbb, Int.toNat_natCast] at hput
    obtain ⟨hbk, ra, rc, hma, hml, y5, hm5, hi5, hpb, hpr⟩ := h1.mem.get hbm
    obtain ⟨v7, hM, -, -⟩ := h1.mac.row
    have m0 := cell_of_row w1 x.mb 0 _ _ _ h1.mbx
    have n0 := cell_of_row w1 x.nb 0 _ _ _ h1.nbx
    have s1 : w1.cell? ⟨x.sb, 1, none⟩ = some (.int .i64 b) := by rw [cell_of_row w1 x.sb 1 _ _ _ h1.sbx, ← hbb]; rfl
    have x5 : w1.cell? ⟨x.M, 5, none⟩ = some (.slice (some ⟨hbk, 0, none⟩) mem.length x.q.mc) := by rw [cell_of_row w1 x.M 5 _ _ _ hM, ← hma, ← hml]; rfl
    obtain ⟨row, hrow⟩ : ∃ row, mem[b] = row := ⟨_, rfl⟩
    rw [hrow] at hput y5 hm5
    obtain ⟨rl, hrl⟩ : ∃ n, row.length = n := ⟨_, rfl⟩
    rw [hrl] at y5 hm5 hput
    have hm5' : rl ≤ 9223372036854775807 := hm5
    have hn9 : n ≤ 9223372036854775807 := h1.n
    have H1 := Lib.hid h1; have HPU := Lib.hid hput; have HROW := Lib.hid hrow; have HRL := Lib.hid hrl
    clear h1 hput hrow hrl hM hi5 hpb hpr hget HP
    by_cases c1 : (rl : Int) ≤ tt
    · have hI : decide ((rl : Int) ≤ tt) = true := by simpa using c1
      have hp : putR D s mem n v = .error 121 := by rw [HPU.out]; exact if_pos (.inl c1)
      obtain rfl : R = .error 121 := by rw [← HRR.out, hp]; rfl
      clear c1 hp
      go_wp2_with (go_quiet (fail))
      exact ⟨rfl, rfl, HKB.out.drewN _⟩
    · obtain ⟨t, rfl⟩ : ∃ t : Nat, tt = t := ⟨tt.toNat, by omega⟩
      have hI : decide ((rl : Int) ≤ (t : Int)) = false := by simpa using c1
      have hN : t < rl := by omega
      have hI2 : decide (rl ≤ t) = false := by simpa using hN
      have hW : IntKind.i64.wrap ((rl : Int) - (t : Int)) = (rl : Int) - (t : Int) := by rw [IntKind.wrap_i64]; omega
      by_cases c2 : (rl : Int) - t ≤ n
      · have hJ : decide ((rl : Int) - (t : Int) ≤ (n : Int)) = true := by simpa using c2
        have hp : putR D s mem n v = .error 121 := by rw [HPU.out]; exact if_pos (.inr c2)
        obtain rfl : R = .error 121 := by rw [← HRR.out, hp]; rfl
        clear hp
        go_wp2_with (go_quiet (fail))
        exact ⟨rfl, rfl, HKB.out.drewN _⟩
      · have hJ : decide ((rl : Int) - (t : Int) ≤ (n : Int)) = false := by simpa using c2
        have hp : putR D s mem n v = .ok (mem.set b (row.set (t + n) v)) := by
          rw [HPU.out]
          show (if _ then _ else _) = _
          rw [if_neg (by omega)]
          rfl
        obtain rfl : R = .ok (mem.set b (row.set (t + n) v), n + 1, last) := by rw [← HRR.out, hp]; rfl
        clear hp
        have hN2 : n < rl - t := by omega
        clear c1 c2
        go_upto_region 3 with (go_quiet (fail))
        have h2 := H1.out.out (Below.drewN w1 nq)
        have HKB := Lib.hid (HKB.out.drewN nq)
        clear m0 n0 s1 x5 y5 H1 hI hJ hW hI2
        obtain ⟨w2, hw2⟩ : ∃ W, w1.drewN nq = W := ⟨_, rfl⟩
        rw [hw2] at h2 HKB ⊢
        clear hw2
        have hlr : 0 < mem[b].length := by rw [HROW.out, HRL.out]; omega
        obtain ⟨u, eu, hru, -⟩ := h2.mem.row b hbm
        obtain ⟨rb, rc2, rfl⟩ := hru.head hlr
        have hput := h2.put HC.out hbm eu (j := t + n) HV64.out (by omega)
        have HP2 := Lib.hid hput
        obtain ⟨cur, hcur⟩ := own_typed hru rfl
        obtain ⟨v7, hM, -, -⟩ := h2.mac.row
        have m0 := cell_of_row w2 x.mb 0 _ _ _ h2.mbx
        have n0 := cell_of_row w2 x.nb 0 _ _ _ h2.nbx
        have s1 : w2.cell? ⟨x.sb, 1, none⟩ = some (.int .i64 b) := by rw [cell_of_row w2 x.sb 1 _ _ _ h2.sbx, ← hbb]; rfl
        have x5 : w2.cell? ⟨x.M, 5, none⟩ = some (.slice (some ⟨hbk, 0, none⟩) mem.length x.q.mc) := by rw [cell_of_row w2 x.M 5 _ _ _ hM, ← hma, ← hml]; rfl
        have y5 := h2.mem.cellv hma eu
        rw [HROW.out, HRL.out] at y5
        obtain ⟨a9, c9, e9, -, hi9⟩ := hru.slice
        cases e9
        obtain ⟨b8, o8, e8, z5⟩ := hi9 (t + n) (by rw [HROW.out, HRL.out]; omega)
        cases e8
        rw [Nat.zero_add] at z5
        have hfr := frozen_of_row w2 rb (t + n) _ _ hcur
        have hfn := frozen_of_row w2 x.nb 0 _ _ h2.nbx
        have hnr : x.nb ≠ rb := fun e => by have h9 := h2.nbx; rw [e, hcur] at h9; exact absurd (cells_ty h9) (by decide)
        have hsum : t + n ≤ 9223372036854775807 := by omega
        have HNR := Lib.hid hnr; have HNB := Lib.hid h2.nbx
        clear hput hru hcur hM h2 eu hnr hi9
        go_upto_region 4 with (go_region)
        have hnb3 : ((w2.setCell ⟨rb, t + n, none⟩ (.int .i64 v)).drew).heap[x.nb]? = some (.cells #[.int .i64 n] 3 (0, 0)) := block_other HNB.out (p := ⟨rb, t + n, none⟩) (Ne.symm HNR.out) _
        have n3 := cell_of_row _ x.nb 0 _ _ _ hnb3
        have f3 := frozen_of_row _ x.nb 0 _ _ hnb3
        clear m0 n0 s1 x5 y5 z5 hfr hfn hnb3
        go_wp2_with fail
        go_end0
        have hz := HP2.out
        rw [HROW.out] at hz
        exact ⟨rfl, hz.1.out (Below.drewN _ 1), (HKB.out.trans hz.2).drewN 1⟩
end Go.Proofs.Ytmlfeocdcjhhaaa

namespace Go.Proofs.Ytmlfeocdcjhhaaa
set_option maxRecDepth 100000
open Go.RowKit
set_option linter.unusedVariables false
set_option linter.unusedSimpArgs false
attribute [local go_sem ↓] Go.wp_at_zero Go.wp_at_succ

section
variable {wB : World} {B : Nat} {D : List Int} {s : Stp} {ks : List Int} {N : Nat} {x : SQ} {Q Q' : Nat → Prop} {w w' : World} {st : List (List Int) × Nat × Int}
theorem StepSt.setLast {mem : List (List Int)} {n : Nat} {last v : Int} (hc : StepC wB B D s ks N x) (h : StepSt wB B D s ks N x Q w (mem, n, last)) (hv : In64 v) :
    StepSt wB B D s ks N x Q (w.setCell ⟨x.lb, 0, none⟩ (.int .i64 v)) (mem, n, v) ∧ KB (fun g => ¬ Q g) w (w.setCell ⟨x.lb, 0, none⟩ (.int .i64 v)) := by
  have k1 : KB (fun y => y = x.lb) w (w.setCell ⟨x.lb, 0, none⟩ (.int .i64 v)) := kb_set rfl
  have kQ : KB (fun g => ¬ Q g) w (w.setCell ⟨x.lb, 0, none⟩ (.int .i64 v)) := k1.mono fun y _ e hq => h.dis y hq (e ▸ own_lb x)
  have hne : ∀ {y : Nat} {cs : Array Value} {t : TypeId}, w.heap[y]? = some (.cells cs t (0, 0)) → t ≠ 2 → y ≠ x.lb := fun hy ht e => by subst e; rw [h.lbx] at hy; exact ht (cells_ty hy).symm
  obtain ⟨v7, hM, -, -⟩ := h.mac.row
  have st3 : ∀ {y : Nat} {cs : Array Value} {t : TypeId}, w.heap[y]? = some (.cells cs t (0, 0)) → t ≠ 2 → (w.setCell ⟨x.lb, 0, none⟩ (.int .i64 v)).heap[y]? = some (.cells cs t (0, 0)) := fun hy ht => (k1.block _ (block_lt hy) (hne hy ht)).trans hy
  refine ⟨⟨h.mac.put_other (fun e => hne hM (by decide) e.symm) (.inr (own_lb x)), ⟨?_, h.mem.hP, ?_⟩, h.memI, h.memN, st3 h.sbx (by decide), st3 h.mbx (by decide), st3 h.nbx (by decide), st3 h.pbx (by decide), ?_, st3 h.kbx (by decide), h.kint.kb kQ (fun b off e h2 => h2 (h.kQ b off e)), h.kQ,
    h.below.trans (kQ.below h.below.size (fun g hg => Nat.le_of_not_lt fun e => hg (h.old g e))), h.old, h.dis, Nat.le_trans h.hB kQ.size, hv, h.n⟩, kQ⟩
  · refine k1.row h.mem.hdr (fun g hg e => ?_)
    obtain ⟨cur2, hc2⟩ := own_typed h.mem.hdr hg
    exact hne hc2 (by decide) e
  · intro k hk
    obtain ⟨u, e, hr2, hp2⟩ := h.mem.row k hk
    exact ⟨u, e, k1.row hr2 (fun g hg e2 => hc.lbr u (List.mem_of_getElem? e) (by rw [hg, e2])), hp2⟩
  · rw [heap_setCell_same w x.lb 0 _ _ _ h.lbx]
    rfl
theorem StepSt.oin (hc : StepC wB B D s ks N x) (h : StepSt wB B D s ks N x Q w st) {vi : Value} {ix : List Int} (hat : RowI 0 w vi ix) (hG : ∀ g, vi.ownBlock = some g → Q g) : OIn wB (fun g => Q g ∨ x.own g) w x.M x.q D x.vals st.1 vi ix [] :=
  ⟨h.mac, h.below, fun g hg => .inl (h.old g hg), hc.dims, h.mem.more fun g hg => .inr hg, hat, fun g hg => .inl (hG g hg)⟩
/-- what an operation's call leaves, read as a step's state -/
theorem StepSt.ops (h : StepSt wB B D s ks N x Q w st) (hk : KB (fun g => ¬ (Q g ∨ x.own g)) w w') (hm : MacS (fun g => Q g ∨ x.own g) w' x.M x.q D []) : StepSt wB B D s ks N x Q w' st ∧ KB (fun g => ¬ Q g) w w' := ⟨h.keep hk hm, hk.mono fun g _ h1 h2 => h1 (.inl h2)⟩
end
/-- the indexes' numbers of a step -/
def outerI (s : Stp) (ks : List Int) : List Int := if s.how = 2 then ks.dropLast else ks
theorem ix_in {l ix : List Int} (h : IxOk l ix) (hl : ∀ k ∈ l, 0 ≤ k ∧ k ≤ 65536) : ∀ i ∈ ix, In64 i := fun i hi => by
  obtain ⟨k, hk, rfl⟩ := List.getElem_of_mem hi
  have h1 := h.2 k hk (by rw [← h.1]; exact hk)
  have h2 := hl _ (List.getElem_mem (l := l) (n := k) (by rw [← h.1]; exact hk))
  unfold In64
  omega
set_option maxHeartbeats 16000000 in
theorem do1_any {wB : World} {B : Nat} {D : List Int} {s : Stp} {ks : List Int} {N : Nat} {x : SQ} {Q : Nat → Prop} {w : World} (mem : List (List Int)) (n : Nat) (last : Int) (hc : StepC wB B D s ks N x) (h : StepSt wB B D s ks N x Q w (mem, n, last)) (hw : s.how ≠ 2) (ix : List Int) (G : Nat) (hat : AtRow w G ix) (hG : Q G) (hok : IxOk ks ix) (l1 : Int) (hlp : s.how = 3 → 0 < ix.length) :
    Calls Try.prog 79 #[.slice (some ⟨G, 0, none⟩) ix.length ix.length, .pointer (some ⟨x.sb, 0, none⟩), .pointer (some ⟨x.mb, 0, none⟩), .pointer (some ⟨x.lb, 0, none⟩), .pointer (some ⟨x.pb, 0, none⟩), .pointer (some ⟨x.kb, 0, none⟩)] w (DoE (StepSt wB B D s ks N x) Q w (turnR D s l1 (mem, n, last) ix)) := by
  obtain ⟨R, hR⟩ : ∃ R, turnR D s l1 (mem, n, last) ix = R := ⟨_, rfl⟩
  rw [hR]
  have hlen : ix.length = s.loops.length := by rw [hok.1, hc.ksl]
  have hl4 := hc.loops4
  have hix := ix_in hok hc.ksb
  have hmn : mem.length = N := h.memN
  have hops := ops_any wB w (fun g => Q g ∨ x.own g) x.M x.q D x.vals mem (some ⟨G, 0, none⟩) ix.length ix x.oa x.oc s.ops (h.oin hc (hat.row (by unfold maxLen; omega) (Nat.zero_le _)) (fun g e => by cases e; exact hG)) hc.ops hc.dep hc.opsl (fun o ho => by rw [hlen, hmn]; exact hc.opk o ho) hix h.memI hc.dimsB hc.dimsl
  obtain ⟨r, hr⟩ : ∃ r, opsM D mem ix s.ops = r := ⟨_, rfl⟩
  rw [hr] at hops
  have hturn : (r.bind fun v => (if s.how = 3 ∧ 0 < ix.getLastD 0 then mustR (dyadF s.fn last v) else .ok v).bind fun v => (putR D s mem n v).map fun m => (m, n + 1, v)) = R := by
    rw [← hr, ← hR]; unfold turnR; rw [if_neg hw]
  have m0 := cell_of_row w x.mb 0 _ _ _ h.mbx
  have s0 : w.cell? ⟨x.sb, 0, none⟩ = some (.int .i64 s.how) := by rw [cell_of_row w x.sb 0 _ _ _ h.sbx]; rfl
  have s5 : w.cell? ⟨x.sb, 5, none⟩ = some (.slice x.oa s.ops.length x.oc) := by rw [cell_of_row w x.sb 5 _ _ _ h.sbx]; rfl
  have hI : (s.how != 2) = true := by simpa using hw
  obtain ⟨il, hil⟩ : ∃ n, ix.length = n := ⟨_, rfl⟩
  rw [hil] at hops hlen hlp ⊢
  obtain ⟨ol, hol⟩ : ∃ n, s.ops.length = n := ⟨_, rfl⟩
  rw [hol] at hops s5
  have HC := Lib.hid hc; have H := Lib.hid h; have HO := Lib.hid hops; have HT := Lib.hid hturn; have HAT := Lib.hid hat; have HLP := Lib.hid hlp; have HIL := Lib.hid hil; have HG := Lib.hid hG; have HOK := Lib.hid hok
  have hil4 : il ≤ 4 := by omega
  clear hc h hops hturn hat hlp hil hG hok hix hr hR hmn hol hw hlen hl4
  cases r with
  | error e =>
    obtain rfl : R = .error e := HT.out.symm
    unfold OpsE endV panE at HO
    dsimp only at HO
    go_enter Try.func79, Try.ntmps79
    go_wp2_with (go_at_call 80; refine HO.out.mono ?_; rintro e1 w1 ⟨rfl, hk1, -⟩)
    exact ⟨rfl, rfl, hk1.mono fun g _ h1 h2 => h1 (.inl h2)⟩
  | ok v =>
    unfold OpsE endV at HO
    dsimp only at HO
    go_enter Try.func79, Try.ntmps79
    go_upto_region 2 with (go_at_call 80; refine HO.out.mono ?_; rintro e1 w1 ⟨rfl, hk1, hm1⟩)
    obtain ⟨hm1, hv64⟩ := hm1 v rfl
    obtain ⟨hst, hkb⟩ := H.out.ops hk1 hm1
    have hat := HAT.out.kb hkb (fun h => h HG.out)
    have HST := Lib.hid hst; have HKB := Lib.hid hkb; have HV := Lib.hid hv64; have HAT := Lib.hid hat
    clear m0 s0 s5 HO H hk1 hm1 hst hkb hv64 hat
    have s0 : w1.cell? ⟨x.sb, 0, none⟩ = some (.int .i64 s.how) := by rw [cell_of_row w1 x.sb 0 _ _ _ HST.out.sbx]; rfl
    have s4 : w1.cell? ⟨x.sb, 4, none⟩ = some (.int .u8 s.fn) := by rw [cell_of_row w1 x.sb 4 _ _ _ HST.out.sbx]; rfl
    have l0 := cell_of_row w1 x.lb 0 _ _ _ HST.out.lbx
    have lf := frozen_of_row w1 x.lb 0 _ _ HST.out.lbx
    by_cases h3 : s.how = 3
    · have hJ : (s.how == 3) = true := by simpa using h3
      have hp := HLP.out h3
      obtain ⟨y, hy⟩ : ∃ y, ix[il - 1]'(by rw [HIL.out]; omega) = y := ⟨_, rfl⟩
      have y0 := HAT.out.cell (k := il - 1) (by rw [HIL.out]; omega)
      rw [hy] at y0
      have hy' : ix[ix.length - 1]? = some y := by rw [HIL.out, List.getElem?_eq_getElem (by rw [HIL.out]; omega), hy]
      have hgl : ix.getLastD 0 = y := by
        rw [List.getLastD_eq_getLast?, List.getLast?_eq_getElem?, hy']
        rfl
      have hlast := HST.out.last
      by_cases hgt : 0 < y
      · have hK : decide (0 < y) = true := by simpa using hgt
        obtain ⟨r, hr⟩ : ∃ r, dyadF s.fn last v = r := ⟨_, rfl⟩
        obtain ⟨n1, e1⟩ := r
        have hn64 : In64 n1 := by have := dyad_in (f := s.fn) hlast HV.out; rw [hr] at this; exact this
        have ht : ((mustR (n1, e1)).bind fun v => (putR D s mem n v).map fun m => (m, n + 1, v)) = R := by
          have := HT.out
          rw [← this]
          show _ = ((if s.how = 3 ∧ 0 < ix.getLastD 0 then mustR (dyadF s.fn last v) else .ok v).bind _)
          rw [hgl, if_pos ⟨h3, hgt⟩, hr]
        have HQD := Lib.hid (dyad_at w1 s.fn last v n1 e1 hlast HV.out hr)
        have HN64 := Lib.hid hn64; have HTT := Lib.hid ht
        clear hr hn64 ht hy hy' hgl hgt hlast HT h3
        have hm := fun W => must_any W n1 e1
        cases hmu : mustR (n1, e1) with
        | error ee =>
          rw [hmu] at HTT
          simp only [hmu] at hm
          unfold endV panE at hm
          dsimp only at hm
          have HM := Lib.hid hm
          obtain rfl : R = .error ee := HTT.out.symm
          clear hmu hm
          go_wp2_with (first | (go_at_call 82; refine HQD.out.mono ?_; rintro e2 w2 ⟨rfl, nd, hnd⟩) | (go_at_call 81; refine (HM.out _).mono ?_; rintro e3 w3 ⟨rfl, rfl⟩))
          refine ⟨rfl, rfl, ?_⟩
          try rw [hnd]
          exact HKB.out.drewN _
        | ok y2 =>
          obtain rfl : y2 = n1 := by
            unfold mustR at hmu
            split at hmu
            · cases hmu; rfl
            · cases hmu
          rw [hmu] at HTT
          simp only [hmu] at hm
          unfold endV at hm
          dsimp only at hm
          have HM := Lib.hid hm
          have HGO : Hid (((putR D s mem n y2).map fun m => (m, n + 1, y2)) = R) := HTT
          have HV64 := HN64
          clear hmu hm
          go_upto_region 4 with (first | (go_at_call 82; refine HQD.out.mono ?_; rintro e2 w2 ⟨rfl, nd, hnd⟩) | (go_at_call 81; refine (HM.out _).mono ?_; rintro e3 w3 ⟨rfl, rfl⟩))
          have HST := Lib.hid (HST.out.out (Below.drewN w1 nd)); have HKB := Lib.hid (HKB.out.drewN nd)
          clear l0 lf s4
          obtain ⟨w5, hw5⟩ : ∃ W, w1.drewN nd = W := ⟨_, rfl⟩
          rw [hw5] at HST HKB ⊢
          clear hw5
          have l0 := cell_of_row w5 x.lb 0 _ _ _ HST.out.lbx
          have lf := frozen_of_row w5 x.lb 0 _ _ HST.out.lbx
          obtain ⟨hsl, hkl⟩ := HST.out.setLast HC.out HV64.out
          have HST := Lib.hid hsl; have HKB := Lib.hid (HKB.out.trans hkl)
          clear hsl hkl s0
          go_upto_region 5 with fail
          clear l0 lf
          obtain ⟨wv, hwv⟩ : ∃ W, World.setCell w5 ⟨x.lb, 0, none⟩ (.int .i64 y2) = W := ⟨_, rfl⟩
          rw [hwv] at HST HKB ⊢
          clear hwv
          have hq := put_any mem n _ HC.out HST.out y2 HV64.out
          have HQ := Lib.hid hq
          have p0 : wv.cell? ⟨x.pb, 0, none⟩ = some (putF x) := by rw [cell_of_row wv x.pb 0 _ _ _ HST.out.pbx]; rfl
          unfold putF at p0
          clear hq
          go_wp2_with fail
          refine HQ.out.mono ?_
          rintro e w9 hdo
          cases hp : putR D s mem n y2 with
          | error e9 =>
            rw [hp] at hdo
            obtain ⟨rfl, hk9⟩ := hdo
            obtain rfl : R = .error e9 := by rw [← HGO.out, hp]; rfl
            unfold panE
            go_wp2_with fail
            exact ⟨rfl, rfl, HKB.out.trans hk9⟩
          | ok m9 =>
            rw [hp] at hdo
            obtain ⟨rfl, hs9, hk9⟩ := hdo
            obtain rfl : R = .ok (m9, n + 1, y2) := by rw [← HGO.out, hp]; rfl
            go_wp2_with fail
            go_end0
            exact ⟨rfl, hs9, HKB.out.trans hk9⟩
          all_goals skip
      · have hK : decide (0 < y) = false := by simpa using hgt
        have hgo : ((putR D s mem n v).map fun m => (m, n + 1, v)) = R := by
          have := HT.out
          rw [← this]
          show _ = ((if s.how = 3 ∧ 0 < ix.getLastD 0 then mustR (dyadF s.fn last v) else .ok v).bind _)
          rw [hgl, if_neg (fun h => hgt h.2)]
          rfl
        have HGO := Lib.hid hgo
        have HV64 := HV
        clear hgo hy hy' hgl hgt hlast HT h3 s4
        go_upto_region 4 with fail
        obtain ⟨hsl, hkl⟩ := HST.out.setLast HC.out HV64.out
        have HST := Lib.hid hsl; have HKB := Lib.hid (HKB.out.trans hkl)
        clear hsl hkl s0
        go_upto_region 5 with fail
        clear l0 lf
        obtain ⟨wv, hwv⟩ : ∃ W, World.setCell w1 ⟨x.lb, 0, none⟩ (.int .i64 v) = W := ⟨_, rfl⟩
        rw [hwv] at HST HKB ⊢
        clear hwv
        have hq := put_any mem n _ HC.out HST.out v HV64.out
        have HQ := Lib.hid hq
        have p0 : wv.cell? ⟨x.pb, 0, none⟩ = some (putF x) := by rw [cell_of_row wv x.pb 0 _ _ _ HST.out.pbx]; rfl
        unfold putF at p0
        clear hq
        go_wp2_with fail
        refine HQ.out.mono ?_
        rintro e w9 hdo
        cases hp : putR D s mem n v with
        | error e9 =>
          rw [hp] at hdo
          obtain ⟨rfl, hk9⟩ := hdo
          obtain rfl : R = .error e9 := by rw [← HGO.out, hp]; rfl
          unfold panE
          go_wp2_with fail
          exact ⟨rfl, rfl, HKB.out.trans hk9⟩
        | ok m9 =>
          rw [hp] at hdo
          obtain ⟨rfl, hs9, hk9⟩ := hdo
          obtain rfl : R = .ok (m9, n + 1, v) := by rw [← HGO.out, hp]; rfl
          go_wp2_with fail
          go_end0
          exact ⟨rfl, hs9, HKB.out.trans hk9⟩
        all_goals skip
    · have hJ : (s.how == 3) = false := by simpa using h3
      have hgo : ((putR D s mem n v).map fun m => (m, n + 1, v)) = R := by
        have := HT.out
        rw [← this]
        show _ = ((if s.how = 3 ∧ 0 < ix.getLastD 0 then mustR (dyadF s.fn last v) else .ok v).bind _)
        rw [if_neg (fun h => h3 h.1)]
        rfl
      have HGO := Lib.hid hgo
      have HV64 := HV
      clear hgo HT h3 s4
      go_upto_region 4 with fail
      obtain ⟨hsl, hkl⟩ := HST.out.setLast HC.out HV64.out
      have HST := Lib.hid hsl; have HKB := Lib.hid (HKB.out.trans hkl)
      clear hsl hkl s0
      go_upto_region 5 with fail
      clear l0 lf
      obtain ⟨wv, hwv⟩ : ∃ W, World.setCell w1 ⟨x.lb, 0, none⟩ (.int .i64 v) = W := ⟨_, rfl⟩
      rw [hwv] at HST HKB ⊢
      clear hwv
      have hq := put_any mem n _ HC.out HST.out v HV64.out
      have HQ := Lib.hid hq
      have p0 : wv.cell? ⟨x.pb, 0, none⟩ = some (putF x) := by rw [cell_of_row wv x.pb 0 _ _ _ HST.out.pbx]; rfl
      unfold putF at p0
      clear hq
      go_wp2_with fail
      refine HQ.out.mono ?_
      rintro e w9 hdo
      cases hp : putR D s mem n v with
      | error e9 =>
        rw [hp] at hdo
        obtain ⟨rfl, hk9⟩ := hdo
        obtain rfl : R = .error e9 := by rw [← HGO.out, hp]; rfl
        unfold panE
        go_wp2_with fail
        exact ⟨rfl, rfl, HKB.out.trans hk9⟩
      | ok m9 =>
        rw [hp] at hdo
        obtain ⟨rfl, hs9, hk9⟩ := hdo
        obtain rfl : R = .ok (m9, n + 1, v) := by rw [← HGO.out, hp]; rfl
        go_wp2_with fail
        go_end0
        exact ⟨rfl, hs9, HKB.out.trans hk9⟩
      all_goals skip
end Go.Proofs.Ytmlfeocdcjhhaaa
