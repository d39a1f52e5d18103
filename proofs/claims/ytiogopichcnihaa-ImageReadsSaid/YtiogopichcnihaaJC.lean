import Derived.Test.YtiogopichcnihaaJB
import Derived.Laws.IdiomStrings
namespace Go.Proofs.Ytiogopichcnihaa
set_option maxRecDepth 100000
open Go.RowKit
set_option linter.unusedVariables false
set_option linter.unusedSimpArgs false

/-! Bytes as texts. -/
def strOf (xs : List Int) : ByteArray := ⟨(xs.map fun x => UInt8.ofNat x.toNat).toArray⟩
theorem u8_back {x : Int} (h : Byt x) : ((UInt8.ofNat x.toNat).toNat : Int) = x := by
  unfold Byt at h
  rw [UInt8.toNat_ofNat']
  omega
theorem strOf_inj : ∀ {xs ys : List Int}, Byts xs → Byts ys → strOf xs = strOf ys → xs = ys := by
  intro xs ys hx hy h
  have h1 : (xs.map fun x => UInt8.ofNat x.toNat) = ys.map fun x => UInt8.ofNat x.toNat := by
    have := congrArg (fun s : ByteArray => s.data.toList) h
    simpa [strOf] using this
  have back : ∀ {l : List Int}, Byts l → (l.map fun x => UInt8.ofNat x.toNat).map (fun u => (u.toNat : Int)) = l := by
    intro l hl
    rw [List.map_map]
    conv => rhs; rw [← List.map_id l]
    exact List.map_congr_left fun x hx => u8_back (hl x hx)
  rw [← back hx, ← back hy, h1]
theorem conv_str (w : World) (a : Option Addr) (cap : Nat) (xs : List Int) (h : IntsAt .u8 w a xs) (hb : Byts xs) : (convert 28 9 (.slice a xs.length cap)).run Try.prog w = .ok (.string (strOf xs)) w := by
  cases a with
  | none =>
    have hx : xs = [] := by
      cases xs with
      | nil => rfl
      | cons x xs => obtain ⟨b, off, e, _⟩ := h 0 (by simp); cases e
    subst hx
    show (convert 28 9 (.slice none 0 cap)).run Try.prog w = _
    rw [run_convert_bytes_string w 28 9 5 none 0 cap Try.underlying28 Try.underlying5 Try.underlying9]
    rfl
  | some ad =>
    have hl : (xs.map fun x => UInt8.ofNat x.toNat).length = xs.length := List.length_map _
    have := run_convert_bytes_back (P := Try.prog) w 28 9 5 ad cap (xs.map fun x => UInt8.ofNat x.toNat) Try.underlying28 Try.underlying5 Try.underlying9 (fun j hj => by
      rw [hl] at hj
      obtain ⟨b, off, e, hc⟩ := h j hj
      cases e
      have e : ∀ k, (⟨b, off, none⟩ : Addr).add k = ⟨b, off + k, none⟩ := fun k => by unfold Addr.add; split <;> simp_all
      rw [e, hc, List.getElem_map, u8_back (hb _ (List.getElem_mem hj))])
    rw [hl] at this
    exact this
theorem str_eq {xs ys : List Int} (hx : Byts xs) (hy : Byts ys) : ((strOf xs).toList == (strOf ys).toList) = decide (xs = ys) := by
  by_cases h : xs = ys
  · subst h; simp
  · rw [decide_eq_false h, beq_eq_false_iff_ne]
    intro e
    refine h (strOf_inj hx hy ?_)
    rw [ByteArray.toList_eq, ByteArray.toList_eq] at e
    have h1 : (strOf xs).data = (strOf ys).data := by simpa using e
    cases hxs : strOf xs
    cases hys : strOf ys
    rw [hxs, hys] at h1
    simp_all
theorem str_head {xs : List Int} (hx : Byts xs) : ((strOf xs).toList == [87, 82, 1]) = decide (xs = [87, 82, 1]) := by
  have h : Byts [87, 82, 1] := by
    intro x hx
    simp at hx
    rcases hx with rfl | rfl | rfl <;> (unfold Byt; omega)
  rw [← str_eq hx h]
  congr 1
  rw [ByteArray.toList_eq]
  rfl

/-! The reader's image. -/
/-- where an image is made: its block M, the answer's block Z -/
structure ImIn (w0 w wx : World) (R M Z : Nat) (vd : Value) (mem : Int) (vi vo vc : Value) (r : List Int) : Prop where
  rd : Rd w0 wx R r
  g : wx.heap[M]? = some (.cells #[vd, .int .i64 mem, vi, vo, vc] 26 (0, 0))
  z : wx.heap[Z]? = some (.cells #[.slice none 0 0, .int .i64 0, .slice none 0 0, .slice none 0 0, .slice none 0 0] 26 (0, 0))
  kb : KB (fun g => g = R) w wx
  base : w0.heap.size ≤ w.heap.size
  gm : w.heap.size ≤ M
  gz : w.heap.size ≤ Z
  mz : M ≠ Z
theorem ImIn.rm {w0 w wx : World} {R M Z : Nat} {vd vi vo vc : Value} {mem : Int} {r : List Int} (h : ImIn w0 w wx R M Z vd mem vi vo vc r) : R ≠ M := by
  intro e
  subst e
  obtain ⟨a, c, hr, _⟩ := h.rd.row
  have := hr.symm.trans h.g
  simp at this
theorem ImIn.rz {w0 w wx : World} {R M Z : Nat} {vd vi vo vc : Value} {mem : Int} {r : List Int} (h : ImIn w0 w wx R M Z vd mem vi vo vc r) : R ≠ Z := by
  intro e
  subst e
  obtain ⟨a, c, hr, _⟩ := h.rd.row
  have := hr.symm.trans h.z
  simp at this
/-- behind a call of the reader's -/
theorem ImIn.next {w0 w wx w5 : World} {R M Z : Nat} {vd vi vo vc : Value} {mem : Int} {r r5 : List Int} (h : ImIn w0 w wx R M Z vd mem vi vo vc r) (hk : KB (fun g => g = R) wx w5) (hrd : Rd w0 w5 R r5) : ImIn w0 w w5 R M Z vd mem vi vo vc r5 :=
  ⟨hrd, (hk.block M (Array.getElem?_eq_some_iff.1 h.g).1 (fun e => h.rm e.symm)).trans h.g, (hk.block Z (Array.getElem?_eq_some_iff.1 h.z).1 (fun e => h.rz e.symm)).trans h.z, h.kb.trans hk, h.base, h.gm, h.gz, h.mz⟩
/-- behind what turned nothing of these blocks: new memory, rows of other types -/
theorem ImIn.grown {w0 w wx w6 : World} {R M Z : Nat} {vd vi vo vc v : Value} {mem : Int} {r : List Int} {o : Obj} {t : TypeId} {size n : Nat} {xs : List Value} (h : ImIn w0 w wx R M Z vd mem vi vo vc r)
    (hv : wx.ownsRow w.heap.size t size v n xs) (h1 : t ≠ 66) (h2 : t ≠ 26) (hgr : (wx.alloc o).grownBy w6 v.ownBlock) : ImIn w0 w w6 R M Z vd mem vi vo vc r := by
  have hb : ∀ g, v.ownBlock = some g → w.heap.size ≤ g := fun g e => (World.ownsRow.lt hv g e).1
  have hne : ∀ {G : Nat} {cs : Array Value} {u : TypeId}, wx.heap[G]? = some (.cells cs u (0, 0)) → t ≠ u → w6.heap[G]? = some (.cells cs u (0, 0)) := fun hg hu => block_grown (block_alloc hg o) hgr (fun e => by
    obtain ⟨cur, hc⟩ := own_typed hv e
    have := hc.symm.trans hg
    cases this
    exact hu rfl)
  refine ⟨?_, hne h.g h2, hne h.z h2, (h.kb.alloc o).grown hgr (fun k e hk => by have := hb k e; omega), h.base, h.gm, h.gz, h.mz⟩
  obtain ⟨a, c, hr, _⟩ := h.rd.row
  exact h.rd.next ((h.rd.below.alloc h.rd.below.size o).grown hgr (by have := h.rd.below.size; simp; omega) (fun g e => by have := hb g e; have := h.base; omega)) ((hne hr h1).trans hr.symm)
theorem ImIn.alloc {w0 w wx : World} {R M Z : Nat} {vd vi vo vc : Value} {mem : Int} {r : List Int} (h : ImIn w0 w wx R M Z vd mem vi vo vc r) (o : Obj) : ImIn w0 w (wx.alloc o) R M Z vd mem vi vo vc r :=
  ⟨h.rd.next (h.rd.below.alloc h.rd.below.size o) (Below.heap_alloc _ _ _ h.rd.lt), block_alloc h.g o, block_alloc h.z o, h.kb.alloc o, h.base, h.gm, h.gz, h.mz⟩
/-- a store into the image's block -/
theorem ImIn.put {w0 w wx : World} {R M Z : Nat} {vd vi vo vc : Value} {mem : Int} {r : List Int} (h : ImIn w0 w wx R M Z vd mem vi vo vc r) (q : Nat) (u : Value) {vd' vi' vo' vc' : Value} {mem' : Int}
    (he : (#[vd, .int .i64 mem, vi, vo, vc] : Array Value).setIfInBounds q u = #[vd', .int .i64 mem', vi', vo', vc']) : ImIn w0 w (wx.setCell ⟨M, q, none⟩ u) R M Z vd' mem' vi' vo' vc' r := by
  refine ⟨h.rd.next (h.rd.below.setCell (p := ⟨M, q, none⟩) (by have := h.base; have := h.gm; show w0.heap.size ≤ M; omega) u) (Below.heap_setCell _ _ _ _ (fun e => h.rm e)), ?_, (Below.heap_setCell _ _ _ _ (fun e => h.mz e.symm)).trans h.z, h.kb.setCell (p := ⟨M, q, none⟩) (fun e => by have := h.gm; have e : M < w.heap.size := e; omega) u, h.base, h.gm, h.gz, h.mz⟩
  rw [heap_setCell_same wx M q _ _ _ h.g, he]
theorem ImIn.tyM {w0 w wx : World} {R M Z : Nat} {vd vi vo vc : Value} {mem : Int} {r : List Int} (h : ImIn w0 w wx R M Z vd mem vi vo vc r) {t : TypeId} (hne : 26 ≠ t) : NotTy t wx M := NotTy.of h.g hne
/-- what image tells -/
def ImgOwn (B : Nat) (w : World) (vd vi vo vc : Value) (m : Img) : Prop := RowI B w vd m.dims ∧ OwnSl B w vi m.ins ∧ OwnSl B w vo m.outs ∧ w.ownsRow B 43 5 vc m.code.length (m.code.flatMap Ins.enc)
def ImageE (w0 w : World) (R : Nat) (res : Option (Img × List Int)) (e : Ending) (w' : World) : Prop :=
  KB (fun g => g = R) w w' ∧ match res with | some (m, r) => (∃ vd vi vo vc, e = .returned (.agg #[vd, .int .i64 m.mem, vi, vo, vc]) ∧ ImgOwn w.heap.size w' vd vi vo vc m ∧ m.dims.length ≤ 6 ∧ m.ins.length ≤ 64 ∧ m.outs.length ≤ 64 ∧ m.code.length ≤ 32768 ∧ (∀ i ∈ m.code, i.wf) ∧ I64 m.mem) ∧ Rd w0 w' R r | none => e = badE
end Go.Proofs.Ytiogopichcnihaa
