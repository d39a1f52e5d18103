import Derived.Test.YtegjcghcknpjeaaP4
import Derived.RangeFuncBox
namespace Go.Proofs.Ytegjcghcknpjeaa
open Go.RowKit
set_option linter.unusedVariables false

/-- is a place led to? -/
def ledIn (n : Nat) (code : List Ins) (k : Nat) : Bool := code.any fun i => leadsTo n i == some k
/-- how many places are led to ahead of k -/
def cntLed (n : Nat) (code : List Ins) : Nat → Int
  | 0 => 0
  | k + 1 => cntLed n code k + if ledIn n code k then 1 else 0
def markU (n : Nat) (code : List Ins) (k : Nat) : Int := if ledIn n code k then cntLed n code (k + 1) else 0
def pieceU (n : Nat) (code : List Ins) (i : Ins) (k : Nat) : Piece :=
  match leadsTo n i with
  | some t => ⟨markU n code k, { i with imm := 0 }, markU n code t⟩
  | none => ⟨markU n code k, i, 0⟩
def unlinkS (code : List Ins) : List Piece × Int :=
  if 32768 < code.length then ([], 150) else if code.any (fun i => !i.right) then ([], 150)
  else ((List.range code.length).map fun k => pieceU code.length code (code.getD k zeroI) k, 0)
/-- a row of pieces of the call's own -/
def RowP (B : Nat) (w : World) (v : Value) (xs : List Piece) : Prop := w.ownsRow B 37 7 v xs.length (xs.flatMap Piece.enc)
def RetPieces (B : Nat) (r : List Piece × Int) (e : Ending) (w' : World) : Prop := ∃ v, e = .returned (.tuple #[v, .int .i64 r.2]) ∧ RowP B w' v r.1
theorem RowP.nil (B : Nat) (w : World) : RowP B w (.slice none 0 0) [] := World.ownsRow_nil w B 37 7
def zeroP : Piece := ⟨0, zeroI, 0⟩
theorem Try.infoP : (Try.prog.info? 37).map (fun i => (i.zero, i.size, i.bytes)) = some (some (.agg #[.int .i64 0, .int .u8 0, .int .u8 0, .int .u8 0, .int .u8 0, .int .i32 0, .int .i64 0]), 7, 24) := by kernel_rfl

theorem cntLed_bd (n : Nat) (code : List Ins) : ∀ k, 0 ≤ cntLed n code k ∧ cntLed n code k ≤ k
  | 0 => by simp [cntLed]
  | k + 1 => by have := cntLed_bd n code k; rw [cntLed]; split <;> omega
/-- the pieces in the first loop, the second, the third -/
def f1 (n : Nat) (code : List Ins) (k j : Nat) : Piece := ⟨if ledIn n (code.take k) j then 1 else 0, zeroI, 0⟩
def f2 (n : Nat) (code : List Ins) (k j : Nat) : Piece := ⟨if j < k then markU n code j else if ledIn n code j then 1 else 0, zeroI, 0⟩
def f3 (n : Nat) (code : List Ins) (k j : Nat) : Piece := if j < k then pieceU n code (code.getD j zeroI) j else ⟨markU n code j, zeroI, 0⟩
/-- .. when To is set alone -/
def g3 (n : Nat) (code : List Ins) (k t j : Nat) : Piece := if j = k then ⟨markU n code k, zeroI, markU n code t⟩ else f3 n code k j
def rowF (n : Nat) (f : Nat → Piece) : Array Value := (((List.range n).map f).flatMap Piece.enc).toArray
theorem ledIn_succ {n k : Nat} {code : List Ins} (h : k < code.length) (j : Nat) : ledIn n (code.take (k + 1)) j = (ledIn n (code.take k) j || leadsTo n code[k] == some j) := by
  unfold ledIn
  rw [List.take_succ_eq_append_getElem h, List.any_append]
  simp
theorem len_enc (x : Piece) : (Piece.enc x).length = 7 := rfl

/-- Between two rounds: the code's box, the row's box, the row. -/
def UnlInv (w : World) (a : Option Addr) (c n Bo G : Nat) (f : Nat → Piece) (wr : World) : Prop :=
  Boxed wr w.heap.size 24 (.slice a n c) ∧ Boxed wr Bo 22 (.slice (some ⟨G, 0, none⟩) n n) ∧ wr.heap[G]? = some (.cells (rowF n f) 37 (0, 0)) ∧ Below w.heap.size w wr
theorem UnlInv.below {w : World} {a : Option Addr} {c n Bo G : Nat} {f : Nat → Piece} {wr w' : World} (h : UnlInv w a c n Bo G f wr) (hb : Below wr.heap.size wr w') : UnlInv w a c n Bo G f w' :=
  ⟨(hb.block _ h.1.lt).trans h.1, (hb.block _ h.2.1.lt).trans h.2.1, (hb.block _ (Array.getElem?_eq_some_iff.1 h.2.2.1).1).trans h.2.2.1, bNext hb h.2.2.2⟩
theorem UnlInv.congr {w : World} {a : Option Addr} {c n Bo G : Nat} {f g : Nat → Piece} {wr : World} (h : UnlInv w a c n Bo G f wr) (hf : ∀ j, j < n → g j = f j) : UnlInv w a c n Bo G g wr :=
  ⟨h.1, h.2.1, by rw [h.2.2.1]; unfold rowF; rw [range_congr hf], h.2.2.2⟩

theorem UnlInv.set {w : World} {a : Option Addr} {c n Bo G : Nat} {f : Nat → Piece} {wr : World} (h : UnlInv w a c n Bo G f wr) {k j : Nat} (hk : k < n) (hj : j < 7) {v : Value} {g : Nat → Piece} (hne : ∀ i, i < n → i ≠ k → g i = f i) (he : Piece.enc (g k) = (Piece.enc (f k)).set j v)
    (hGc : G ≠ w.heap.size := by omega) (hGo : G ≠ Bo := by omega) (hGw : w.heap.size ≤ G := by omega) : UnlInv w a c n Bo G g (wr.setCell ⟨G, k * 7 + j, none⟩ v) := by
  refine ⟨(Below.heap_setCell _ _ _ _ (fun e => hGc e.symm)).trans h.1, (Below.heap_setCell _ _ _ _ (fun e => hGo e.symm)).trans h.2.1, ?_, h.2.2.2.setCell hGw _⟩
  have := field_stored len_enc hj h.2.2.1 (by simpa using hk) (g k) (by rw [List.getElem_map, List.getElem_range]; exact he)
  rw [this, range_set]
  unfold rowF
  rw [range_congr fun i hi => ?_]
  by_cases e : i = k
  · rw [if_pos e, e]
  · rw [if_neg e, hne i hi e]
theorem UnlInv.replaced {w : World} {a : Option Addr} {c n Bo G : Nat} {f : Nat → Piece} {wr w' : World} (h : UnlInv w a c n Bo G f wr) (hg : wr.grownBy w' (some G)) {k : Nat} {z : Piece} (hr : w'.heap[G]? = some (.cells ((((List.range n).map f).set k z).flatMap Piece.enc).toArray 37 (0, 0))) (hk : k < n) {g : Nat → Piece}
    (hne : ∀ i, i < n → i ≠ k → g i = f i) (he : g k = z) (hGc : G ≠ w.heap.size := by omega) (hGo : G ≠ Bo := by omega) (hGw : w.heap.size ≤ G := by omega) : UnlInv w a c n Bo G g w' := by
  refine ⟨h.1.kept hg (fun e => hGc (by cases e; rfl)), h.2.1.kept hg (fun e => hGo (by cases e; rfl)), ?_, h.2.2.2.grown hg h.2.2.2.size (fun j e => by cases e; exact hGw)⟩
  rw [hr, range_set]
  unfold rowF
  rw [range_congr fun i hi => ?_]
  by_cases e : i = k
  · rw [if_pos e, e, he]
  · rw [if_neg e, hne i hi e]
theorem UnlInv.drew {w : World} {a : Option Addr} {c n Bo G : Nat} {f : Nat → Piece} {wr : World} (h : UnlInv w a c n Bo G f wr) : UnlInv w a c n Bo G f wr.drew := ⟨h.1, h.2.1, h.2.2.1, h.2.2.2.drew⟩
theorem UnlInv.other {w : World} {a : Option Addr} {c n Bo G : Nat} {f : Nat → Piece} {wr : World} (h : UnlInv w a c n Bo G f wr) {p : Addr} (h1 : p.block ≠ w.heap.size) (h2 : p.block ≠ Bo) (h3 : p.block ≠ G) (h4 : w.heap.size ≤ p.block) (v : Value) : UnlInv w a c n Bo G f (wr.setCell p v) :=
  ⟨(Below.heap_setCell _ _ _ _ (Ne.symm h1)).trans h.1, (Below.heap_setCell _ _ _ _ (Ne.symm h2)).trans h.2.1, (Below.heap_setCell _ _ _ _ (Ne.symm h3)).trans h.2.2.1, h.2.2.2.setCell h4 _⟩
theorem leadsTo_lt {n t : Nat} {x : Ins} (h : leadsTo n x = some t) : t < n := by
  unfold leadsTo at h
  split at h
  · cases h; omega
  · cases h

set_option maxRecDepth 100000 in
set_option maxHeartbeats 8000000 in
theorem unlink_any (w : World) (a : Option Addr) (c : Nat) (code : List Ins) (hm : code.length ≤ maxLen) (h : insRep.Els w a code) :
    Calls Try.prog 14 #[.slice a code.length c] w fun e w' => RetPieces w.heap.size (unlinkS code) e w' ∧ Below w.heap.size w w' := by
  have hmf : ∀ (fn : Fn) (first cap : Array Value) (w : World), (Instr.makeFunc fn first cap).run Try.prog w = .ok (.func fn first cap) w := fun _ _ _ _ => rfl
  have hb0 : ∀ o, Below w.heap.size w (w.alloc o) := fun o => (Below.refl _ _).alloc (Nat.le_refl _) o
  by_cases hbig : (32768 : Int) < (code.length : Int)
  · have hs : unlinkS code = ([], 150) := by unfold unlinkS; rw [if_pos (by omega)]
    have Hs := Lib.hid hs; have HB := Lib.hid hb0; clear hs h hb0
    unfold maxLen at hm
    go_enter Try.func14, Try.ntmps14
    go_wp2_with fail
    go_ret2
    exact ⟨by rw [Hs.out]; exact ⟨_, rfl, RowP.nil _ _⟩, HB.out _⟩
  · have hbig' : decide ((32768 : Int) < (code.length : Int)) = false := by simpa using hbig
    have hq := fun o => containsFuncI (w.alloc o) a c code 27 (fun i => !i.right) unlink1_in hm (h.below insRep (hb0 o) (Nat.le_refl _)) (fun x hx w' => unlink1_any w' x hx)
    unfold maxLen at hm
    obtain ⟨n, hn⟩ : ∃ n, code.length = n := ⟨_, rfl⟩
    have HI := Lib.hid h; have HB := Lib.hid hb0; clear h hb0
    cases hany : code.any (fun i => !i.right) with
    | true =>
      have hs : unlinkS code = ([], 150) := by unfold unlinkS; rw [if_neg (by omega), if_pos hany]
      rw [hany] at hq
      have Hs := Lib.hid hs; have HQ := Lib.hid hq; clear hs hq hany hn
      go_enter Try.func14, Try.ntmps14
      go_wp2_with fail
      refine (HQ.out _).mono ?_
      rintro e w1 ⟨rfl, hb⟩
      go_wp2_with fail
      go_ret2
      exact ⟨by rw [Hs.out]; exact ⟨_, rfl, RowP.nil _ _⟩, bAfter (HB.out _) (by simp) hb⟩
    | false =>
      have hs : unlinkS code = ((List.range n).map fun k => pieceU n code (code.getD k zeroI) k, 0) := by unfold unlinkS; rw [if_neg (by omega), if_neg (by rw [hany]; simp), hn]
      rw [hany, hn] at hq
      rw [hn] at hbig' hbig hm ⊢
      have Hs := Lib.hid hs; have HQ := Lib.hid hq; have Hn := Lib.hid hn; clear hs hq hany hn
      obtain ⟨i0, hi, hz0, hz1, hz2⟩ := info_parts Try.infoP
      have Hi := Lib.hid hi; have Hz0 := Lib.hid hz0; have Hz1 := Lib.hid hz1; have Hz2 := Lib.hid hz2; clear hi hz0 hz1 hz2
      go_enter Try.func14, Try.ntmps14
      go_wp2_with fail
      refine (HQ.out _).mono ?_
      rintro e w1 ⟨rfl, hb⟩
      have hB1 : Below w.heap.size w w1 := bAfter (HB.out _) (by simp) hb
      have b1 : Boxed w1 w.heap.size 24 (.slice a n c) := (hb.block _ (by simp)).trans (Boxed.new w 24 (.slice a n c))
      have c1 := b1.cell
      have hz1 : w.heap.size < w1.heap.size := b1.lt
      go_wp2_with (at_make; refine wpList_make_full _ rfl _ _ 22 rfl w.heap.size 37 i0 _ 7 Try.underlying22 Hi.out Hz0.out Hz1.out _ _ _ _ n rfl rfl rfl rfl ?c2 ?c3 ?c4 ?_)
      case c2 => rw [Hz2.out]; omega
      case c3 => unfold maxLen; omega
      case c4 => exact hB1.size
      intro w2 hown hgrow
      obtain ⟨G, hG⟩ : ∃ G, w1.heap.size = G := ⟨_, rfl⟩
      have hrow : w2.heap[G]? = some (.cells (rowF n (f1 n code 0)) 37 (0, 0)) := by
        have hmd := made_flat len_enc zeroP n
        obtain ⟨_, ⟨hv, _⟩ | ⟨g', cap, cur, hv, _, hg, _, _, hcs, ht⟩⟩ := hown
        · cases hv
        · cases hv
          rw [← hG, hg]
          congr 2
          rw [List.take_of_length_le (by simp [hcs])] at ht
          have e : (List.range n).map (f1 n code 0) = List.replicate n zeroP := by
            apply List.ext_getElem?
            intro i
            by_cases hi : i < n
            · simp [hi, f1, ledIn, zeroP]
            · rw [List.getElem?_eq_none (by simp; omega), List.getElem?_eq_none (by simp; omega)]
          unfold rowF
          rw [e, ← hmd]
          have : cur = cur.toList.toArray := by simp
          rw [this, ht]
          rfl
      have hB2 : Below w.heap.size w w2 := hB1.grown hgrow hB1.size (by simp)
      have b2 : Boxed w2 w.heap.size 24 (.slice a n c) := b1.kept hgrow (by simp)
      have hGl : G < w2.heap.size := (Array.getElem?_eq_some_iff.1 hrow).1
      have hGm : w.heap.size < G := by omega
      rw [hG]
      have Hrow := Lib.hid hrow; have HB2 := Lib.hid hB2
      clear hown hgrow hrow hB2 b1 c1 hb
      have c2 := fun o => (b2.alloc o).cell
      go_wp2_with fail
      have hBx : Boxed (w2.alloc (.cells #[.slice (some ⟨G, 0, none⟩) n n] 22)) w2.heap.size 22 (.slice (some ⟨G, 0, none⟩) n n) := Boxed.new _ _ _
      obtain ⟨Bo, hBo⟩ : ∃ Bo, w2.heap.size = Bo := ⟨_, rfl⟩
      rw [hBo] at hGl hBx ⊢
      have hstart : UnlInv w a c n Bo G (f1 n code 0) (w2.alloc (.cells #[.slice (some ⟨G, 0, none⟩) n n] 22)) :=
        ⟨b2.alloc _, hBx, (Below.heap_alloc _ _ _ (by omega)).trans Hrow.out, HB2.out.alloc HB2.out.size _⟩
      have Hst := Lib.hid hstart
      clear hstart hBx b2 c2 Hrow HB2 hBo hB1 hz1 hG
      go_loopw [27] (fun i wr => ∃ k : Nat, k ≤ n ∧ i = .int .i64 (k : Int) ∧ UnlInv w a c n Bo G (f1 n code k) wr) (fun i _ => n - (intOf i).toNat)
      case atStart => exact ⟨0, Nat.zero_le _, rfl, Hst.out⟩
      case round =>
        obtain ⟨k, hk, rfl, bc, bo, hr, hB⟩ := hrel
        by_cases hlt : k < n
        · have hkc : k < code.length := by rw [Hn.out]; exact hlt
          obtain ⟨b, off, rfl, hw, x0, x1, x2, x3, x4⟩ := els_ins (HI.out.below insRep hB (Nat.le_refl _)) hkc
          have hz0 : (0 : Int) ≤ (k : Int) := by omega
          have hz1 : (k : Int) < (n : Int) := by omega
          have hled := ledIn_succ (n := n) hkc
          obtain ⟨x, hx⟩ : ∃ x, code[k] = x := ⟨_, rfl⟩
          rw [hx] at hw x0 x1 x2 x3 x4 hled
          have hu := fun o => unlink2_any (wr.alloc o) x hw w.heap.size Bo G n c (some ⟨b, off, none⟩) (by omega) (bc.alloc o).cell (bo.alloc o).cell
          unfold Ins.V at hu
          cases hl : leadsTo n x with
          | none =>
            rw [hl] at hu
            have hf : ∀ j, f1 n code (k + 1) j = f1 n code k j := fun j => by unfold f1; rw [hled, hl]; simp
            have HU := Lib.hid hu; have Hf := Lib.hid hf; have Hr := Lib.hid hr; have Hbc := Lib.hid bc; have Hbo := Lib.hid bo
            clear hu hf hr bc bo hled hl hx
            simp only [Option.map_none] at HU
            go_wp2_with fail
            refine (HU.out _).mono ?_
            rintro e w4 ⟨rfl, hb⟩
            go_wp2_with fail
            go_roundw
            case rel => exact ⟨k + 1, by omega, by go_num, (UnlInv.below ⟨Hbc.out.alloc _, Hbo.out.alloc _, (Below.heap_alloc _ _ _ (Array.getElem?_eq_some_iff.1 Hr.out).1).trans Hr.out, hB.alloc hB.size _⟩ hb).congr fun j _ => Hf.out j⟩
            case measure => simp [intOf]; omega
          | some t =>
            rw [hl] at hu
            have htn : t < n := leadsTo_lt hl
            have hf : ∀ j, f1 n code (k + 1) j = if j = t then ⟨1, zeroI, 0⟩ else f1 n code k j := fun j => by
              unfold f1; rw [hled, hl]
              by_cases e : j = t
              · subst e; simp
              · have e' : ¬ t = j := fun h => e h.symm
                simp [e, e']
            have HU := Lib.hid hu; have Hf := Lib.hid hf; have Hr := Lib.hid hr; have Hbc := Lib.hid bc; have Hbo := Lib.hid bo
            clear hu hf hr bc bo hled hl hx
            simp only [Option.map_some] at HU
            go_wp2_with fail
            refine (HU.out _).mono ?_
            rintro e w4 ⟨rfl, hb⟩
            have hI : UnlInv w (some ⟨b, off, none⟩) c n Bo G (f1 n code k) w4 := UnlInv.below ⟨Hbc.out.alloc _, Hbo.out.alloc _, (Below.heap_alloc _ _ _ (Array.getElem?_eq_some_iff.1 Hr.out).1).trans Hr.out, hB.alloc hB.size _⟩ hb
            have hr4 := hI.2.2.1
            have cm : w4.cell? ⟨G, t * 7, none⟩ = some (.int .i64 (f1 n code k t).mark) := by
              have := field_read len_enc (j := 0) (k := t) (by omega) hr4 (by simpa using htn)
              rw [List.getElem_map, List.getElem_range] at this
              exact this
            have fm : w4.frozen? ⟨G, t * 7, none⟩ = false := frozen_of_row w4 G _ _ _ hr4
            have HI4 := Lib.hid hI
            clear hI hr4
            go_wp2_with fail
            go_roundw
            case rel =>
              refine ⟨k + 1, by omega, by go_num, HI4.out.set htn (j := 0) (by omega) (g := f1 n code (k + 1)) (fun j _ hj => by rw [Hf.out, if_neg hj]) (by rw [Hf.out, if_pos rfl]; rfl)⟩
            case measure => simp [intOf]; omega
        · obtain rfl : k = n := by omega
          have htk : code.take k = code := List.take_of_length_le (by rw [Hn.out]; exact Nat.le_refl _)
          have hI : UnlInv w a c k Bo G (f2 k code 0) wr := UnlInv.congr ⟨bc, bo, hr, hB⟩ fun j _ => by unfold f1 f2; rw [htk]; simp
          have cB := bo.cell
          have HI2 := Lib.hid hI
          clear hI hr bc htk
          go_wp2_with fail
          go_loopw [9, 42] (fun m i wr => ∃ q : Nat, q ≤ k ∧ i = .int .i64 (q : Int) ∧ m = .int .i64 (cntLed k code q) ∧ UnlInv w a c k Bo G (f2 k code q) wr) (fun _ i _ => k - (intOf i).toNat)
          case atStart => exact ⟨0, Nat.zero_le _, rfl, rfl, HI2.out⟩
          case round =>
            obtain ⟨q, hq, rfl, rfl, hI⟩ := hrel
            have hr := hI.2.2.1
            have cB := hI.2.1.cell
            have hbd := cntLed_bd k code q
            have hcs : cntLed k code (q + 1) = cntLed k code q + if ledIn k code q then 1 else 0 := rfl
            by_cases hlt : q < k
            · have cm : wr.cell? ⟨G, q * 7, none⟩ = some (.int .i64 (if ledIn k code q then 1 else 0)) := by
                have := field_read len_enc (j := 0) (k := q) (by omega) hr (by simpa using hlt)
                rw [List.getElem_map, List.getElem_range] at this
                refine this.trans ?_
                show some (Value.int .i64 (f2 k code q q).mark) = _
                unfold f2; rw [if_neg (by omega)]
              have fm : wr.frozen? ⟨G, q * 7, none⟩ = false := frozen_of_row wr G _ _ _ hr
              have hz0 : (0 : Int) ≤ (q : Int) := by omega
              have hz1 : (q : Int) < (k : Int) := by omega
              obtain ⟨m, hm⟩ : ∃ m, cntLed k code q = m := ⟨_, rfl⟩
              rw [hm] at hbd hcs
              have HI := Lib.hid hI; have Hcs := Lib.hid hcs; have Hm := Lib.hid hm
              cases hld : ledIn k code q with
              | false =>
                rw [hld] at cm hcs
                have Hld := Lib.hid hld
                clear hI hcs hr hld hm
                simp only [Bool.false_eq_true, if_false] at cm
                rw [Hm.out]
                go_wp2_with fail
                go_roundw
                case rel =>
                  refine ⟨q + 1, by omega, by go_num, by rw [Hcs.out, Hld.out]; simp, HI.out.congr fun j _ => ?_⟩
                  unfold f2
                  by_cases e : j = q
                  · subst e; rw [if_pos (by omega), if_neg (by omega), Hld.out]; unfold markU; rw [Hld.out]; rfl
                  · by_cases e2 : j < q
                    · rw [if_pos (by omega), if_pos e2]
                    · rw [if_neg (by omega), if_neg e2]
                case measure => simp [intOf]; omega
              | true =>
                rw [hld] at cm hcs
                have Hld := Lib.hid hld
                clear hI hcs hr hld hm
                simp only [if_true] at cm
                rw [Hm.out]
                go_wp2_with fail
                go_roundw
                case rel =>
                  refine ⟨q + 1, by omega, by go_num, by rw [Hcs.out, Hld.out]; simp, HI.out.set hlt (j := 0) (by omega) (g := f2 k code (q + 1)) (fun j _ hj => ?_) ?_⟩
                  · unfold f2
                    by_cases e2 : j < q
                    · rw [if_pos (by omega), if_pos e2]
                    · rw [if_neg (by omega), if_neg e2]
                  · unfold f2
                    rw [if_pos (by omega), if_neg (by omega)]
                    unfold markU
                    rw [Hld.out, if_pos rfl, Hcs.out, Hld.out]
                    rfl
                case measure => simp [intOf]; omega
            · obtain rfl : q = k := by omega
              have hI3 : UnlInv w a c q Bo G (f3 q code 0) wr := hI.congr fun j hj => by unfold f2 f3; rw [if_pos hj, if_neg (by omega)]
              have HI3 := Lib.hid hI3
              have c1 := hI.1.cell
              clear hI3 hI hcs hr
              go_wp2_with fail
              clear c1 cB
              go_loopw [61] (fun i wr => ∃ k : Nat, k ≤ q ∧ i = .int .i64 (k : Int) ∧ UnlInv w a c q Bo G (f3 q code k) wr) (fun i _ => q - (intOf i).toNat)
              case atStart => exact ⟨0, Nat.zero_le _, rfl, HI3.out⟩
              case round =>
                obtain ⟨k, hk, rfl, hI⟩ := hrel
                by_cases hlt : k < q
                · have hkc : k < code.length := by rw [Hn.out]; exact hlt
                  obtain ⟨b, off, rfl, hw, x0, x1, x2, x3, x4⟩ := els_ins (HI.out.below insRep hI.2.2.2 (Nat.le_refl _)) hkc
                  have hz0 : (0 : Int) ≤ (k : Int) := by omega
                  have hz1 : (k : Int) < (q : Int) := by omega
                  have hgd : code.getD k zeroI = code[k] := by rw [List.getD_eq_getElem?_getD, List.getElem?_eq_getElem hkc]; rfl
                  obtain ⟨x, hx⟩ : ∃ x, code[k] = x := ⟨_, rfl⟩
                  rw [hx] at hw x0 x1 x2 x3 x4 hgd
                  have hu := fun o => unlink2_any (wr.alloc o) x hw w.heap.size Bo G q c (some ⟨b, off, none⟩) (by omega) (hI.1.alloc o).cell (hI.2.1.alloc o).cell
                  have hGr : G < wr.heap.size := (Array.getElem?_eq_some_iff.1 hI.2.2.1).1
                  have hBr : Bo < wr.heap.size := hI.2.1.lt
                  have hwr : w.heap.size < wr.heap.size := hI.1.lt
                  unfold Ins.V at hu
                  have hIa : ∀ o, UnlInv w (some ⟨b, off, none⟩) c q Bo G (f3 q code k) (wr.alloc o) := fun o => hI.below ((Below.refl _ _).alloc (Nat.le_refl _) o)
                  cases hl : leadsTo q x with
                  | none =>
                    rw [hl] at hu
                    have HU := Lib.hid hu; have HIa := Lib.hid hIa; have Hgd := Lib.hid hgd; have Hl := Lib.hid hl
                    clear hu hIa hI hgd hl hx
                    simp only [Option.map_none] at HU
                    go_wp2_with fail
                    refine (HU.out _).mono ?_
                    rintro e w4 ⟨rfl, hb⟩
                    have hI4 := (HIa.out _).below hb
                    have cB4 := hI4.2.1.cell
                    have hz4 : wr.heap.size < w4.heap.size := by have := hb.size; simp at this; omega
                    have dd : ∀ j, w4.cell? ⟨wr.heap.size, j, none⟩ = (Ins.enc x)[j]? := fun j => by
                      rw [hb.cell (p := ⟨wr.heap.size, j, none⟩) (by simp), cell_of_row _ wr.heap.size j _ _ _ (World.alloc_heap_new wr _)]
                      simp [Ins.enc]
                    have d0 := dd 0; have d1 := dd 1; have d2 := dd 2; have d3 := dd 3; have d4 := dd 4
                    simp only [Ins.enc, List.getElem?_cons_succ, List.getElem?_cons_zero] at d0 d1 d2 d3 d4
                    have HI4 := Lib.hid hI4
                    have hr4 := hI4.2.2.1
                    unfold rowF at hr4
                    have HR4 := Lib.hid hr4
                    clear dd hI4 hb hr4
                    go_wp2_with ((with_reducible show wpList _ _ _ ({ dst := none, op := Op.store 35 (.tmp 84) (.tmp 82), type := _, pos := _, after := _, guard := _ } :: _) _ _); (refine wpList_store_part rfl 7 Piece.enc len_enc 35 _ _ rfl G k 1 _ (by simpa using hlt) (Ins.enc x) (insRep_one _) (by show 1 + 5 ≤ 7; decide) ⟨markU q code k, x, 0⟩ (by rw [List.getElem_map, List.getElem_range]; unfold f3; rw [if_neg (by omega)]; rfl) rfl rfl 37 HR4.out (by kernel_rfl) ?_); intro w5 hr5 hg5)
                    go_roundw
                    case rel =>
                      refine ⟨k + 1, by omega, by go_num, HI4.out.replaced hg5 hr5 hlt (fun j _ hj => ?_) ?_⟩
                      · unfold f3
                        by_cases e2 : j < k
                        · rw [if_pos (by omega), if_pos e2]
                        · rw [if_neg (by omega), if_neg e2]
                      · unfold f3; rw [if_pos (by omega), Hgd.out]; unfold pieceU; rw [Hl.out]
                    case measure => simp [intOf]; omega
                  | some t =>
                    rw [hl] at hu
                    have htn : t < q := leadsTo_lt hl
                    have HU := Lib.hid hu; have HIa := Lib.hid hIa; have Hgd := Lib.hid hgd; have Hl := Lib.hid hl
                    clear hu hIa hI hgd hl hx
                    simp only [Option.map_some] at HU
                    go_wp2_with fail
                    refine (HU.out _).mono ?_
                    rintro e w4 ⟨rfl, hb⟩
                    have hI4 := (HIa.out _).below hb
                    have cB4 := hI4.2.1.cell
                    have hz4 : wr.heap.size < w4.heap.size := by have := hb.size; simp at this; omega
                    have dh : w4.heap[wr.heap.size]? = some (.cells (Ins.enc x).toArray 35 (0, 0)) := (hb.block _ (by simp)).trans (World.alloc_heap_new wr _)
                    have ct : w4.cell? ⟨G, t * 7, none⟩ = some (.int .i64 (markU q code t)) := by
                      have := field_read len_enc (j := 0) (k := t) (by omega) hI4.2.2.1 (by simpa using htn)
                      rw [List.getElem_map, List.getElem_range] at this
                      refine this.trans ?_
                      show some (Value.int .i64 (f3 q code k t).mark) = _
                      unfold f3; split
                      · unfold pieceU; split <;> rfl
                      · rfl
                    have ck : w4.cell? ⟨G, k * 7 + 6, none⟩ = some (.int .i64 0) := by
                      have := field_read len_enc (j := 6) (k := k) (by omega) hI4.2.2.1 (by simpa using hlt)
                      rw [List.getElem_map, List.getElem_range] at this
                      refine this.trans ?_
                      show some (Value.int .i64 (f3 q code k k).to) = _
                      unfold f3; rw [if_neg (by omega)]
                    have fk : w4.frozen? ⟨G, k * 7 + 6, none⟩ = false := frozen_of_row w4 G _ _ _ hI4.2.2.1
                    have HI4 := Lib.hid hI4; have Hdh := Lib.hid dh
                    clear hI4 hb dh
                    go_wp2_with fail
                    go_region
                    have hI5 : UnlInv w (some ⟨b, off, none⟩) c q Bo G (g3 q code k t) (w4.setCell ⟨G, k * 7 + 6, none⟩ (.int .i64 (markU q code t))).drew :=
                      (HI4.out.set hlt (j := 6) (by omega) (g := g3 q code k t) (fun j _ hj => by unfold g3; rw [if_neg hj]) (by unfold g3 f3; rw [if_pos rfl, if_neg (by omega)]; rfl)).drew
                    have dh5 : ((w4.setCell ⟨G, k * 7 + 6, none⟩ (.int .i64 (markU q code t))).drew).heap[wr.heap.size]? = some (.cells (Ins.enc x).toArray 35 (0, 0)) := (Below.heap_setCell _ ⟨G, k * 7 + 6, none⟩ _ _ (by show wr.heap.size ≠ G; omega)).trans Hdh.out
                    generalize (w4.setCell ⟨G, k * 7 + 6, none⟩ (.int .i64 (markU q code t))).drew = w5 at hI5 dh5 ⊢
                    have d4 : w5.cell? ⟨wr.heap.size, 4, none⟩ = some (.int .i32 x.imm) := by rw [cell_of_row _ wr.heap.size 4 _ _ _ dh5]; rfl
                    have f4 : w5.frozen? ⟨wr.heap.size, 4, none⟩ = false := frozen_of_row w5 _ _ _ _ dh5
                    have d0 : w5.cell? ⟨wr.heap.size, 0, none⟩ = some (.int .u8 x.op) := by rw [cell_of_row _ wr.heap.size 0 _ _ _ dh5]; rfl
                    have d1 : w5.cell? ⟨wr.heap.size, 1, none⟩ = some (.int .u8 x.a) := by rw [cell_of_row _ wr.heap.size 1 _ _ _ dh5]; rfl
                    have d2 : w5.cell? ⟨wr.heap.size, 2, none⟩ = some (.int .u8 x.b) := by rw [cell_of_row _ wr.heap.size 2 _ _ _ dh5]; rfl
                    have d3 : w5.cell? ⟨wr.heap.size, 3, none⟩ = some (.int .u8 x.c) := by rw [cell_of_row _ wr.heap.size 3 _ _ _ dh5]; rfl
                    have hI6 : UnlInv w (some ⟨b, off, none⟩) c q Bo G (g3 q code k t) (w5.setCell ⟨wr.heap.size, 4, none⟩ (.int .i32 0)) := hI5.other (by show wr.heap.size ≠ _; omega) (by show wr.heap.size ≠ _; omega) (by show wr.heap.size ≠ _; omega) (by show w.heap.size ≤ wr.heap.size; omega) _
                    have cB6 := hI6.2.1.cell
                    have hr6 := hI6.2.2.1
                    unfold rowF at hr6
                    have HR6 := Lib.hid hr6; have HI6 := Lib.hid hI6
                    clear hI5 hI6 dh5 hr6
                    go_wp2_with ((with_reducible show wpList _ _ _ ({ dst := none, op := Op.store 35 (.tmp 84) (.tmp 82), type := _, pos := _, after := _, guard := _ } :: _) _ _); (refine wpList_store_part rfl 7 Piece.enc len_enc 35 _ _ rfl G k 1 _ (by simpa using hlt) (Ins.enc { x with imm := 0 }) (insRep_one _) (by show 1 + 5 ≤ 7; decide) ⟨markU q code k, { x with imm := 0 }, markU q code t⟩ (by rw [List.getElem_map, List.getElem_range]; unfold g3; rw [if_pos rfl]; rfl) rfl rfl 37 HR6.out (by kernel_rfl) ?_); intro w7 hr7 hg7)
                    go_roundw
                    case rel =>
                      refine ⟨k + 1, by omega, by go_num, HI6.out.replaced hg7 hr7 hlt (fun j _ hj => ?_) ?_⟩
                      · unfold f3 g3 f3
                        rw [if_neg hj]
                        by_cases e2 : j < k
                        · rw [if_pos (by omega), if_pos e2]
                        · rw [if_neg (by omega), if_neg e2]
                      · unfold f3; rw [if_pos (by omega), Hgd.out]; unfold pieceU; rw [Hl.out]
                    case measure => simp [intOf]; omega
                · obtain rfl : k = q := by omega
                  have cB := hI.2.1.cell
                  have HI4 := Lib.hid hI
                  have hw' := hI.2.2.2
                  clear hI
                  go_wp2_with fail
                  go_ret2
                  refine ⟨?_, hw'⟩
                  rw [Hs.out]
                  refine ⟨_, rfl, ?_⟩
                  have hr := HI4.out.2.2.1
                  have hf : (List.range k).map (f3 k code k) = (List.range k).map fun j => pieceU k code (code.getD j zeroI) j := range_congr fun j hj => by unfold f3; rw [if_pos hj]
                  unfold rowF at hr
                  rw [hf] at hr
                  refine ⟨by rw [flatMap_len len_enc], .inr ⟨G, k, _, by simp, by omega, hr, by simp, by unfold maxLen; omega, ?_, ?_⟩⟩
                  · simp only [List.size_toArray]; rw [flatMap_len len_enc]; simp
                  · simp only 
                    rw [List.take_of_length_le (by rw [flatMap_len len_enc]; exact Nat.le_refl _)]
end Go.Proofs.Ytegjcghcknpjeaa
