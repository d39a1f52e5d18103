import Derived.Test.YtiogopichcnihaaJN
namespace Go.Proofs.Ytiogopichcnihaa
set_option maxRecDepth 100000
open Go.RowKit
set_option linter.unusedVariables false
set_option linter.unusedSimpArgs false

/-! The reference's Read: its stages, plain, and where its image is made. -/
/-- a stage: with the flag down it stands; with it up nothing comes of it -/
def Stg {α : Type} (b : Bool) (X : Prop) (P : Option α) : Prop := (b = false → X) ∧ (b = true → P = none)
theorem Stg.good {α : Type} {X : Prop} {P : Option α} (h : Stg false X P) : X := h.1 rfl
theorem Stg.bad {α : Type} {X : Prop} {P : Option α} (h : Stg true X P) : P = none := h.2 rfl
theorem Stg.imp {α : Type} {b : Bool} {X Y : Prop} {P : Option α} (h : Stg b X P) (f : X → Y) : Stg b Y P := ⟨fun e => f (h.1 e), h.2⟩
theorem Stg.none {α : Type} {X : Prop} {P : Option α} (h : P = none) : Stg true X P := ⟨(fun e => by cases e), fun _ => h⟩
theorem num_stage {α : Type} {most : Int} {l r1 : List Int} {v : Nat} {b b1 : Bool} {P : Option α} (F : Int → List Int → Option α) (hb : Byts l)
    (h : Stg b ((match numP most l with | Option.none => Option.none | some (n, r) => F n r) = P) P)
    (hs : ∀ n r0, numP most l = some (n, r0) → n = (v : Int) ∧ r0 = r1 ∧ b1 = b) (hn : numP most l = Option.none → b1 = true) (hbb : b = true → b1 = true) : Stg b1 ((v : Int) ≤ most ∧ F v r1 = P) P := by
  cases hb1 : b with
  | true =>
    subst hb1
    have e := hbb rfl
    subst e
    exact Stg.none h.bad
  | false =>
    subst hb1
    have hg := h.good
    cases hp : numP most l with
    | none =>
      have e := hn hp
      subst e
      rw [hp] at hg
      exact Stg.none hg.symm
    | some nr =>
      obtain ⟨n, r0⟩ := nr
      obtain ⟨rfl, rfl, e⟩ := hs n r0 hp
      subst e
      rw [hp] at hg
      exact ⟨fun _ => ⟨(numP_back hb hp).2.2, hg⟩, (fun e => by cases e)⟩
theorem slots_stage {α : Type} {l r : List Int} {xs : List Slo} {b b1 : Bool} {P : Option α} (F : List Slo → List Int → Option α)
    (h : Stg b ((match slotsP 64 l with | Option.none => Option.none | some (n, r) => F n r) = P) P)
    (hs : b1 = false → slotsP 64 l = some (xs, r)) (hn : b1 = true → b = true ∨ slotsP 64 l = Option.none) (hbb : Mono2 b b1) : Stg b1 (F xs r = P) P := by
  cases hb1 : b with
  | true =>
    subst hb1
    have e := hbb rfl
    subst e
    exact Stg.none h.bad
  | false =>
    subst hb1
    have hg := h.good
    cases b1 with
    | true =>
      have := (hn rfl).resolve_left (by decide)
      rw [this] at hg
      exact Stg.none hg.symm
    | false =>
      rw [hs rfl] at hg
      exact ⟨fun _ => hg, (fun e => by cases e)⟩
theorem step_stage {α β : Type} {p : List Int → Option (α × List Int)} {q : Nat} {x : α} {acc : List α} {r r1 : List Int} {b1 : Bool} {P : Option β} (F : Option (List α × List Int) → Option β) (hF : F Option.none = Option.none)
    (h : F (manyA p (q + 1) acc r) = P) (hs : ∀ n r0, p r = some (n, r0) → n = x ∧ r0 = r1 ∧ b1 = false) (hn : p r = Option.none → b1 = true) : Stg b1 (F (manyA p q (acc ++ [x]) r1) = P) P := by
  rw [manyA] at h
  cases hp : p r with
  | none =>
    have e := hn hp
    subst e
    rw [hp] at h
    exact Stg.none (by rw [← h]; exact hF)
  | some nr =>
    obtain ⟨n, r0⟩ := nr
    obtain ⟨rfl, rfl, e⟩ := hs n r0 hp
    subst e
    rw [hp] at h
    exact ⟨fun _ => h, (fun e => by cases e)⟩
/-! imgP, taken apart -/
def imgC (dims : List Int) (mem : Int) (ins outs : List Slo) (o : Option (List Ins × List Int)) : Option (Img × List Int) := match o with
  | none => none
  | some (code, r) => some (⟨dims, mem, ins, outs, code⟩, r)
def imgP5 (dims : List Int) (mem : Int) (ins outs : List Slo) (l : List Int) : Option (Img × List Int) := match numP 32768 l with
  | none => none
  | some (k, r) => imgC dims mem ins outs (manyA insP k.toNat [] r)
def imgP4 (dims : List Int) (mem : Int) (ins : List Slo) (l : List Int) : Option (Img × List Int) := match slotsP 64 l with
  | none => none
  | some (outs, r) => imgP5 dims mem ins outs r
def imgP3 (dims : List Int) (mem : Int) (l : List Int) : Option (Img × List Int) := match slotsP 64 l with
  | none => none
  | some (ins, r) => imgP4 dims mem ins r
theorem imgP2_eq (dims l : List Int) : imgP2 dims l = match numP 2097152 l with | none => none | some (mem, r) => imgP3 dims mem r := rfl
def imgC1 (o : Option (List Int × List Int)) : Option (Img × List Int) := match o with
  | none => none
  | some (dims, r) => imgP2 dims r
theorem imgP_eq (r : List Int) : imgP (87 :: 82 :: 1 :: r) = match numP 6 r with | none => none | some (n, r) => imgC1 (manyA (numP 65536) n.toNat [] r) := imgP_1 rfl
/-- an instruction's eight bytes, read one by one -/
structure Eight (rc : List Int) (k : Nat) (W : Nat) (r : List Int) (b : Bool) : Prop where
  ok : k ≤ rc.length → W = wholeB (rc.take k) ∧ r = rc.drop k ∧ b = false
  no : rc.length < k → b = true
  lt : W < 18446744073709551616
theorem Eight.zero (rc : List Int) : Eight rc 0 0 rc false := ⟨fun _ => ⟨rfl, rfl, rfl⟩, fun h => by omega, by omega⟩
theorem Eight.step {rc : List Int} {k W : Nat} {r : List Int} {b : Bool} {x : Nat} (h : Eight rc k W r b) (hx : (x : Int) = r.headD 0) : Eight rc (k + 1) ((W * 256 + x) % 18446744073709551616) r.tail (b || r.isEmpty) := by
  refine ⟨fun hk => ?_, fun hk => ?_, Nat.mod_lt _ (by omega)⟩
  · obtain ⟨rfl, rfl, rfl⟩ := h.ok (by omega)
    have hd : rc.drop k = rc[k] :: rc.drop (k + 1) := List.drop_eq_getElem_cons (by omega)
    rw [hd] at hx ⊢
    have hx' : (x : Int) = rc[k] := hx
    refine ⟨?_, rfl, rfl⟩
    rw [wholeB_take (by omega), ← hx', Int.toNat_natCast]
  · by_cases h1 : rc.length < k
    · rw [h.no h1]; rfl
    · obtain ⟨-, rfl, -⟩ := h.ok (by omega)
      have : k = rc.length := by omega
      subst this
      simp
theorem step256 (W x : Nat) (hx : x ≤ 255) : IntKind.u64.wrap (IntKind.u64.wrap ((W : Int) * 256) + (x : Int)) = (((W * 256 + x) % 18446744073709551616 : Nat) : Int) := by
  have e : ∀ z : Int, IntKind.u64.wrap z = z % 18446744073709551616 := fun z => by simp [IntKind.wrap, IntKind.signed, IntKind.bits]
  rw [e, e]
  omega
/-- behind the eight bytes -/
theorem eight_stage {q : Nat} {code : List Ins} {rc r : List Int} {W : Nat} {b : Bool} {dims : List Int} {mem : Int} {ins outs : List Slo} {P : Option (Img × List Int)} (h : imgC dims mem ins outs (manyA insP (q + 1) code rc) = P) (h8 : Eight rc 8 W r b) :
    Stg (b || !(decI W).right) (imgC dims mem ins outs (manyA insP q (code ++ [decI W]) r) = P) P := by
  refine step_stage (imgC dims mem ins outs) rfl h (fun n r0 hh => ?_) (fun hh => ?_)
  · unfold insP at hh
    split at hh
    · cases hh
    · rename_i hl
      obtain ⟨rfl, rfl, rfl⟩ := h8.ok (by omega)
      split at hh
      · rename_i hr
        cases hh
        exact ⟨rfl, rfl, by rw [hr]; rfl⟩
      · cases hh
  · unfold insP at hh
    split at hh
    · rename_i hl
      rw [h8.no hl]; rfl
    · rename_i hl
      obtain ⟨rfl, rfl, rfl⟩ := h8.ok (by omega)
      split at hh
      · cases hh
      · rename_i hr
        simpa using hr
/-! where the image is made -/
structure RIm (w W : World) (R M Z : Nat) (vd : Value) (mem : Int) (vi vo vc : Value) (r : List Int) (b : Bool) : Prop where
  rd : Rr w W R r b
  g : W.heap[M]? = some (.cells #[vd, .int .i64 mem, vi, vo, vc] 26 (0, 0))
  z : W.heap[Z]? = some (.cells #[.slice none 0 0, .int .i64 0, .slice none 0 0, .slice none 0 0, .slice none 0 0] 26 (0, 0))
  gm : w.heap.size ≤ M
  gz : w.heap.size ≤ Z
  mz : M ≠ Z
theorem RIm.rm {w W : World} {R M Z : Nat} {vd vi vo vc : Value} {mem : Int} {r : List Int} {b : Bool} (h : RIm w W R M Z vd mem vi vo vc r b) : R ≠ M := by
  intro e
  subst e
  obtain ⟨a, c, hr, _⟩ := h.rd.row
  have := hr.symm.trans h.g
  simp at this
theorem RIm.rz {w W : World} {R M Z : Nat} {vd vi vo vc : Value} {mem : Int} {r : List Int} {b : Bool} (h : RIm w W R M Z vd mem vi vo vc r b) : R ≠ Z := by
  intro e
  subst e
  obtain ⟨a, c, hr, _⟩ := h.rd.row
  have := hr.symm.trans h.z
  simp at this
theorem RIm.next {w W W5 : World} {R M Z : Nat} {vd vi vo vc : Value} {mem : Int} {r r5 : List Int} {b b5 : Bool} (h : RIm w W R M Z vd mem vi vo vc r b) (hk : KB (fun g => g = R) W W5) (hrd : Rr w W5 R r5 b5) : RIm w W5 R M Z vd mem vi vo vc r5 b5 :=
  ⟨hrd, (hk.block M (Array.getElem?_eq_some_iff.1 h.g).1 (fun e => h.rm e.symm)).trans h.g, (hk.block Z (Array.getElem?_eq_some_iff.1 h.z).1 (fun e => h.rz e.symm)).trans h.z, h.gm, h.gz, h.mz⟩
theorem RIm.grown {w W W6 : World} {R M Z : Nat} {vd vi vo vc v : Value} {mem : Int} {r : List Int} {b : Bool} {o : Obj} {t : TypeId} {size n : Nat} {xs : List Value} (h : RIm w W R M Z vd mem vi vo vc r b)
    (hv : W.ownsRow w.heap.size t size v n xs) (h1 : t ≠ 71) (h2 : t ≠ 26) (hgr : (W.alloc o).grownBy W6 v.ownBlock) : RIm w W6 R M Z vd mem vi vo vc r b := by
  have hb : ∀ g, v.ownBlock = some g → w.heap.size ≤ g := fun g e => (World.ownsRow.lt hv g e).1
  have hne : ∀ {G : Nat} {cs : Array Value} {u : TypeId}, W.heap[G]? = some (.cells cs u (0, 0)) → t ≠ u → W6.heap[G]? = some (.cells cs u (0, 0)) := fun hg hu => block_grown (block_alloc hg o) hgr (fun e => by
    obtain ⟨cur, hc⟩ := own_typed hv e
    have := hc.symm.trans hg
    cases this
    exact hu rfl)
  refine ⟨?_, hne h.g h2, hne h.z h2, h.gm, h.gz, h.mz⟩
  obtain ⟨a, c, hr, _⟩ := h.rd.row
  exact h.rd.next ((h.rd.below.alloc h.rd.below.size o).grown hgr (by have := h.rd.below.size; simp; omega) hb) ((hne hr h1).trans hr.symm)
theorem RIm.alloc {w W : World} {R M Z : Nat} {vd vi vo vc : Value} {mem : Int} {r : List Int} {b : Bool} (h : RIm w W R M Z vd mem vi vo vc r b) (o : Obj) : RIm w (W.alloc o) R M Z vd mem vi vo vc r b :=
  ⟨h.rd.next (h.rd.below.alloc h.rd.below.size o) (Below.heap_alloc _ _ _ h.rd.lt), block_alloc h.g o, block_alloc h.z o, h.gm, h.gz, h.mz⟩
theorem RIm.below {w W W5 : World} {R M Z : Nat} {vd vi vo vc : Value} {mem : Int} {r : List Int} {b : Bool} (h : RIm w W R M Z vd mem vi vo vc r b) (hb : Below W.heap.size W W5) : RIm w W5 R M Z vd mem vi vo vc r b :=
  ⟨h.rd.next (bNext hb h.rd.below) (hb.block R h.rd.lt), block_below h.g hb, block_below h.z hb, h.gm, h.gz, h.mz⟩
theorem RIm.put {w W : World} {R M Z : Nat} {vd vi vo vc : Value} {mem : Int} {r : List Int} {b : Bool} (h : RIm w W R M Z vd mem vi vo vc r b) (q : Nat) (u : Value) {vd' vi' vo' vc' : Value} {mem' : Int}
    (he : (#[vd, .int .i64 mem, vi, vo, vc] : Array Value).setIfInBounds q u = #[vd', .int .i64 mem', vi', vo', vc']) : RIm w (W.setCell ⟨M, q, none⟩ u) R M Z vd' mem' vi' vo' vc' r b := by
  refine ⟨h.rd.next (h.rd.below.setCell (p := ⟨M, q, none⟩) h.gm u) (Below.heap_setCell _ _ _ _ (fun e => h.rm e)), ?_, (Below.heap_setCell _ _ _ _ (fun e => h.mz e.symm)).trans h.z, h.gm, h.gz, h.mz⟩
  rw [heap_setCell_same W M q _ _ _ h.g, he]
/-- the flag is set -/
theorem RIm.flag {w W : World} {R M Z : Nat} {vd vi vo vc : Value} {mem : Int} {r : List Int} {b : Bool} (h : RIm w W R M Z vd mem vi vo vc r b) : RIm w (W.setCell ⟨R, 1, none⟩ (.bool true)) R M Z vd mem vi vo vc r true := h.next h.rd.set.2 h.rd.set.1
theorem RIm.tyM {w W : World} {R M Z : Nat} {vd vi vo vc : Value} {mem : Int} {r : List Int} {b : Bool} (h : RIm w W R M Z vd mem vi vo vc r b) {t : TypeId} (hne : 26 ≠ t) : NotTy t W M := NotTy.of h.g hne
/-- all of it: where it is made, and that its rows are of the call's own -/
def RAll (w W : World) (R M Z : Nat) (vd vi vo vc : Value) (m : Img) (r : List Int) (b : Bool) : Prop := RIm w W R M Z vd m.mem vi vo vc r b ∧ ImgOwn w.heap.size W vd vi vo vc m ∧ ∀ i ∈ m.code, i.wf
theorem RAll.below {w W W5 : World} {R M Z : Nat} {vd vi vo vc : Value} {m : Img} {r : List Int} {b : Bool} (h : RAll w W R M Z vd vi vo vc m r b) (hb : Below W.heap.size W W5) : RAll w W5 R M Z vd vi vo vc m r b := ⟨h.1.below hb, h.2.1.below hb, h.2.2⟩
theorem RAll.next {w W W5 : World} {R M Z : Nat} {vd vi vo vc : Value} {m : Img} {r r5 : List Int} {b b5 : Bool} (h : RAll w W R M Z vd vi vo vc m r b) (hk : KB (fun g => g = R) W W5) (hrd : Rr w W5 R r5 b5) : RAll w W5 R M Z vd vi vo vc m r5 b5 :=
  ⟨h.1.next hk hrd, h.2.1.keep (h.1.rd.keepTy hk (by decide)) (h.1.rd.keepTy hk (by decide)) (h.1.rd.keepTy hk (by decide)), h.2.2⟩
theorem RAll.flag {w W : World} {R M Z : Nat} {vd vi vo vc : Value} {m : Img} {r : List Int} {b : Bool} (h : RAll w W R M Z vd vi vo vc m r b) : RAll w (W.setCell ⟨R, 1, none⟩ (.bool true)) R M Z vd vi vo vc m r true := h.next h.1.rd.set.2 h.1.rd.set.1
/-- one instruction more -/
theorem RAll.app {w W W6 : World} {R M Z : Nat} {vd vi vo vc v : Value} {dims : List Int} {mem : Int} {ins outs : List Slo} {code : List Ins} {ii : Ins} {r : List Int} {b : Bool} {o : Obj} (h : RAll w W R M Z vd vi vo vc ⟨dims, mem, ins, outs, code⟩ r b) (hw : ii.wf)
    (hown : W6.ownsRow w.heap.size 43 5 v (code.length + 1) (code.flatMap Ins.enc ++ ii.enc)) (hgr : (W.alloc o).grownBy W6 vc.ownBlock) :
    RIm w W6 R M Z vd mem vi vo vc r b ∧ RAll w (W6.setCell ⟨M, 4, none⟩ v) R M Z vd vi vo v ⟨dims, mem, ins, outs, code ++ [ii]⟩ r b := by
  obtain ⟨him, ⟨h1, h2, h3, h4⟩, hwf⟩ := h
  have h4 : W.ownsRow w.heap.size 43 5 vc code.length (code.flatMap Ins.enc) := h4
  have him6 := him.grown h4 (by decide) (by decide) hgr
  have ht : ∀ {t : TypeId}, 43 ≠ t → KeepTy t W W6 := fun hne => (KeepTy.below ((Below.refl _ _).alloc (Nat.le_refl _) _)).trans (KeepTy.grown hgr fun g e => by
    obtain ⟨cur, hc⟩ := own_typed (World.ownsRow.alloc h4 o) e
    exact NotTy.of hc hne)
  have hput : ∀ {t : TypeId}, 26 ≠ t → KeepTy t W6 (W6.setCell ⟨M, 4, none⟩ v) := fun hne => KeepTy.setCell (p := ⟨M, 4, none⟩) (him6.tyM hne) _
  refine ⟨him6, him6.put 4 v rfl, ⟨own_keep (own_keep h1 (ht (by decide))) (hput (by decide)), (h2.keep (ht (by decide)) (ht (by decide))).keep (hput (by decide)) (hput (by decide)), (h3.keep (ht (by decide)) (ht (by decide))).keep (hput (by decide)) (hput (by decide)), ?_⟩, fun i hi => ?_⟩
  · show (W6.setCell ⟨M, 4, none⟩ v).ownsRow _ _ _ _ (code ++ [ii]).length ((code ++ [ii]).flatMap Ins.enc)
    rw [List.length_append, List.flatMap_append, List.flatMap_singleton]
    exact own_keep hown (hput (by decide))
  · rcases List.mem_append.1 hi with h | h
    · exact hwf i h
    · rw [List.mem_singleton.1 h]; exact hw
def insZ : Ins := ⟨0, 0, 0, 0, 0⟩
theorem insZ_wf : insZ.wf := by constructor <;> (unfold insZ; dsimp only; omega)
theorem enc_one (x : Ins) : ∀ u ∈ x.enc, u.oneCell' = true := by intro u hu; simp [Ins.enc] at hu; rcases hu with rfl | rfl | rfl | rfl | rfl <;> rfl
theorem results_ri {fn : Func} {p q : Tmp} (h : fn.results = #[.cell p 26, .tmp q]) (tmps : Array Value) (w : World) (g : Nat) (cs : Array Value) (x : Value)
    (hp : tmps.getD p undef = .pointer (some ⟨g, 0, none⟩)) (hq : tmps.getD q undef = x) (hg : w.heap[g]? = some (.cells cs 26 (0, 0))) (hi : cs.size = 5) :
    (results fn tmps).run Try.prog w = .ok (.tuple #[.agg cs, x]) w := by
  have hp' : tmps[p]?.getD undef = .pointer (some ⟨g, 0, none⟩) := by simpa using hp
  have hq' : tmps[q]?.getD undef = x := by simpa using hq
  have hl1 := run_loadVar_row (P := Try.prog) w g 26 26 cs (0, 0) _ hg Try.underlying26 rfl (by rw [hi]; kernel_rfl)
  simp [results, h, hp', hq', asAddr, hl1]
end Go.Proofs.Ytiogopichcnihaa
