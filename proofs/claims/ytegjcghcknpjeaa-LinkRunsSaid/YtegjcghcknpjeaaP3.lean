import Derived.Test.YtegjcghcknpjeaaP2
import Derived.Test.YtegjcghcknpjeaaMap
import Derived.Test.YtegjcghcknpjeaaDefer
import Derived.Test.YtegjcghcknpjeaaElem
namespace Go.Proofs.Ytegjcghcknpjeaa
open Go.RowKit

/-- where each mark stands among the first k pieces -/
def marksTo (l : List Piece) : Nat → Int → Option Int
  | 0 => fun _ => none
  | k + 1 => match l[k]? with
    | some p => delM (putM (marksTo l k) p.mark k) 0
    | none => marksTo l k
theorem marksTo_succ {l : List Piece} {k : Nat} (h : k < l.length) : marksTo l (k + 1) = delM (putM (marksTo l k) l[k].mark k) 0 := by
  rw [marksTo, List.getElem?_eq_getElem h]
theorem marksTo_lt {l : List Piece} {m v : Int} : ∀ {k : Nat}, k ≤ l.length → marksTo l k m = some v → 0 ≤ v ∧ v < k
  | 0, _, h => by cases h
  | k + 1, hk, h => by
    rw [marksTo_succ (by omega)] at h
    unfold delM putM at h
    split at h
    · cases h
    · split at h
      · cases h; omega
      · have := marksTo_lt (by omega) h; omega
/-- the first piece that is wrong in itself, and how -/
def fault (l : List Piece) : Nat → List Piece → Option (Nat × Int)
  | _, [] => none
  | k, p :: r => if p.right = false then some (k, 170) else if (marksTo l k p.mark).isSome then some (k, 171) else fault l (k + 1) r
theorem fault_step {l : List Piece} {k : Nat} (h : k < l.length) : fault l k (l.drop k) = if l[k].right = false then some (k, 170) else if (marksTo l k l[k].mark).isSome then some (k, 171) else fault l (k + 1) (l.drop (k + 1)) := by
  rw [List.drop_eq_getElem_cons h, fault]
/-- the first piece that leads to no mark -/
def lost (M : Int → Option Int) : Nat → List Piece → Option Nat
  | _, [] => none
  | k, p :: r => if p.to ≠ 0 ∧ M p.to = none then some k else lost M (k + 1) r
theorem lost_step {M : Int → Option Int} {l : List Piece} {k : Nat} (h : k < l.length) : lost M k (l.drop k) = if l[k].to ≠ 0 ∧ M l[k].to = none then some k else lost M (k + 1) (l.drop (k + 1)) := by
  rw [List.drop_eq_getElem_cons h, lost]
def placed (M : Int → Option Int) (p : Piece) : Ins := if p.to = 0 then p.ins else { p.ins with imm := (M p.to).getD 0 }
def linkS (l : List Piece) : (List Ins × Int) × Int :=
  if 32768 < l.length then (([], 0), 173) else
  match fault l 0 l with
  | some (i, e) => (([], i), e)
  | none => match lost (marksTo l l.length) 0 l with
    | some i => (([], i), 172)
    | none => ((l.map (placed (marksTo l l.length)), 0), 0)
/-- a row of instructions of the call's own -/
def RowIns (B : Nat) (w : World) (v : Value) (xs : List Ins) : Prop := w.ownsRow B 35 5 v xs.length (xs.flatMap Ins.enc)
def RetLink (B : Nat) (r : (List Ins × Int) × Int) (e : Ending) (w' : World) : Prop := ∃ v, e = .returned (.tuple #[v, .int .i64 r.1.2, .int .i64 r.2]) ∧ RowIns B w' v r.1.1
theorem RowIns.nil (B : Nat) (w : World) : RowIns B w (.slice none 0 0) [] := World.ownsRow_nil w B 35 5

theorem end_clear {fn : Func} {R : Ending → World → Prop} {tmps : Array Value} {w : World} {B n : Nat} {M : Int → Option Int} {ty : TypeId} {k : Array Bool} (hM : MapI B n M w)
    (hR : ∀ w1, w.grownBy w1 (some B) → ∃ v, (results fn tmps).run Try.prog w1 = .ok v w1 ∧ R (.returned v) w1) :
    EndB Try.prog fn R { tmps := tmps, defers := [{ target := .builtin .clear #[52] ty k, args := #[.map (some B)] }] } w := by
  obtain ⟨u, w1, h1, h2⟩ := run_clear hM ty k
  obtain ⟨v, h3, h4⟩ := hR w1 h2
  exact .inr ⟨_, _, _, _, _, u, w1, v, rfl, rfl, h1, h3, h4⟩
theorem insRep_one (x : Ins) : ∀ v ∈ Ins.enc x, v.oneCell' = true := by intro v hv; simp [Ins.enc] at hv; rcases hv with rfl | rfl | rfl | rfl | rfl <;> rfl
def zeroI : Ins := ⟨0, 0, 0, 0, 0⟩
/-- what is made behind k pieces -/
def outsK (M : Int → Option Int) (l : List Piece) (k : Nat) : List Ins := (l.take k).map (placed M) ++ List.replicate (l.length - k) zeroI
theorem outsK_len (M : Int → Option Int) (l : List Piece) {k : Nat} (h : k ≤ l.length) : (outsK M l k).length = l.length := by unfold outsK; simp; omega
theorem outsK_set {M : Int → Option Int} {l : List Piece} {k : Nat} (h : k < l.length) : (outsK M l k).set k (placed M l[k]) = outsK M l (k + 1) := by
  unfold outsK
  rw [List.set_append_right _ _ (by simp; omega)]
  have e : k - ((l.take k).map (placed M)).length = 0 := by simp; omega
  rw [e, show l.length - k = (l.length - (k + 1)) + 1 from by omega, List.replicate_succ, List.set_cons_zero, List.take_succ_eq_append_getElem h, List.map_append, List.append_assoc]
  rfl
theorem outsK_all (M : Int → Option Int) (l : List Piece) : outsK M l l.length = l.map (placed M) := by unfold outsK; simp
theorem flat_set5 (x : Ins) : ∀ (xs : List Ins) (k : Nat), k < xs.length →
    (((((xs.flatMap Ins.enc).set (k * 5) (.int .u8 x.op)).set (k * 5 + 1) (.int .u8 x.a)).set (k * 5 + 2) (.int .u8 x.b)).set (k * 5 + 3) (.int .u8 x.c)).set (k * 5 + 4) (.int .i32 x.imm) = (xs.set k x).flatMap Ins.enc
  | [], _, h => absurd h (Nat.not_lt_zero _)
  | y :: r, 0, _ => by simp [Ins.enc]
  | y :: r, k + 1, h => by
    rw [List.set_cons_succ, List.flatMap_cons, List.flatMap_cons, ← flat_set5 x r k (by simpa using h), show (k + 1) * 5 = k * 5 + 5 from by omega]
    rfl
theorem flat_imm (v : Int) : ∀ (xs : List Ins) (k : Nat), (h : k < xs.length) → (xs.flatMap Ins.enc).set (k * 5 + 4) (.int .i32 v) = (xs.set k { xs[k] with imm := v }).flatMap Ins.enc
  | [], _, h => absurd h (Nat.not_lt_zero _)
  | y :: r, 0, _ => by simp [Ins.enc]
  | y :: r, k + 1, h => by
    rw [List.set_cons_succ, List.flatMap_cons, List.flatMap_cons, show (k + 1) * 5 + 4 = (k * 5 + 4) + 5 from by omega]
    have := flat_imm v r k (by simpa using h)
    simp only [List.getElem_cons_succ]
    rw [← this]
    rfl
theorem flat_get : ∀ (xs : List Ins) (k : Nat), (h : k < xs.length) → (xs.flatMap Ins.enc)[k * 5]? = some (.int .u8 xs[k].op) ∧ (xs.flatMap Ins.enc)[k * 5 + 1]? = some (.int .u8 xs[k].a) ∧ (xs.flatMap Ins.enc)[k * 5 + 2]? = some (.int .u8 xs[k].b) ∧
    (xs.flatMap Ins.enc)[k * 5 + 3]? = some (.int .u8 xs[k].c) ∧ (xs.flatMap Ins.enc)[k * 5 + 4]? = some (.int .i32 xs[k].imm)
  | [], _, h => absurd h (Nat.not_lt_zero _)
  | y :: r, 0, _ => ⟨rfl, rfl, rfl, rfl, rfl⟩
  | y :: r, k + 1, h => by
    have := flat_get r k (by simpa using h)
    rw [show (k + 1) * 5 = k * 5 + 5 from by omega]
    simpa [Ins.enc] using this
theorem flat_len (xs : List Ins) : (xs.flatMap Ins.enc).length = xs.length * 5 := by
  induction xs with
  | nil => rfl
  | cons y r ih => rw [List.flatMap_cons, List.length_append, ih, List.length_cons, Nat.succ_mul, Nat.add_comm]; rfl

theorem Try.infoI : (Try.prog.info? 35).map (fun i => (i.zero, i.size, i.bytes)) = some (some (.agg #[.int .u8 0, .int .u8 0, .int .u8 0, .int .u8 0, .int .i32 0]), 5, 8) := by kernel_rfl
theorem made_ins (n : Nat) : (madeCells #[Value.int .u8 0, .int .u8 0, .int .u8 0, .int .u8 0, .int .i32 0] (n * 5)).toList = (List.replicate n zeroI).flatMap Ins.enc := by
  apply List.ext_getElem?
  intro i
  by_cases hi : i < n * 5
  · have hk : i / 5 < n := by omega
    have hg := flat_get (List.replicate n zeroI) (i / 5) (by simpa using hk)
    simp only [List.getElem_replicate] at hg
    have hj : i % 5 = 0 ∨ i % 5 = 1 ∨ i % 5 = 2 ∨ i % 5 = 3 ∨ i % 5 = 4 := by omega
    have hm : (madeCells #[Value.int .u8 0, .int .u8 0, .int .u8 0, .int .u8 0, .int .i32 0] (n * 5)).toList[i]? = some ((#[Value.int .u8 0, .int .u8 0, .int .u8 0, .int .u8 0, .int .i32 0])[i % 5]!) := by
      simp [madeCells, hi]
    rw [hm]
    rcases hj with h | h | h | h | h <;> rw [h]
    · rw [show i = i / 5 * 5 from by omega, hg.1]; rfl
    · rw [show i = i / 5 * 5 + 1 from by omega, hg.2.1]; rfl
    · rw [show i = i / 5 * 5 + 2 from by omega, hg.2.2.1]; rfl
    · rw [show i = i / 5 * 5 + 3 from by omega, hg.2.2.2.1]; rfl
    · rw [show i = i / 5 * 5 + 4 from by omega, hg.2.2.2.2]; rfl
  · rw [List.getElem?_eq_none (by simp [madeCells]; omega), List.getElem?_eq_none (by rw [flat_len]; simp; omega)]

set_option maxRecDepth 100000 in
set_option maxHeartbeats 8000000 in
theorem link_any (w : World) (a : Option Addr) (c : Nat) (l : List Piece) (hm : l.length ≤ maxLen) (h : pieceRep.Els w a l) :
    Calls Try.prog 11 #[.slice a l.length c] w fun e w' => RetLink w.heap.size (linkS l) e w' ∧ Below w.heap.size w w' := by
  have hmm := @run_makeMap Try.prog
  unfold maxLen at hm
  by_cases hbig : 32768 < l.length
  · have hs : linkS l = (([], 0), 173) := by unfold linkS; rw [if_pos hbig]
    have Hs := Lib.hid hs; clear hs h
    refine calls_of_wp_builtin Try.func11 rfl ?_
    simp only [Try.ntmps11, List.size_toArray, List.length_cons, List.length_nil, Nat.reduceAdd, Nat.reduceSub, Array.replicate_succ, Array.replicate_zero, List.push_toArray, List.append_toArray, List.nil_append, List.cons_append]
    go_wp2_with fail
    refine .inl ⟨rfl, .tuple #[.slice none 0 0, .int .i64 0, .int .i64 173], by simp [results, Try.results11], ?_, Below.refl _ _⟩
    rw [Hs.out]; exact ⟨_, rfl, RowIns.nil _ _⟩
  · have HI := Lib.hid h; clear h
    refine calls_of_wp_builtin Try.func11 rfl ?_
    simp only [Try.ntmps11, List.size_toArray, List.length_cons, List.length_nil, Nat.reduceAdd, Nat.reduceSub, Array.replicate_succ, Array.replicate_zero, List.push_toArray, List.append_toArray, List.nil_append, List.cons_append]
    go_wp2_with fail
    have hl : l.length ≤ 32768 := by omega
    go_loopw [22] (fun i wr => ∃ k : Nat, k ≤ l.length ∧ i = .int .i64 (k : Int) ∧ MapI w.heap.size k (marksTo l k) wr ∧ Below w.heap.size w wr ∧ fault l 0 l = fault l k (l.drop k)) (fun i _ => l.length - (intOf i).toNat)
    case atStart => exact ⟨0, Nat.zero_le _, rfl, MapI.made w, (Below.refl _ _).alloc (Nat.le_refl _) _, rfl⟩
    case round =>
      obtain ⟨k, hk, rfl, hM, hB, hf⟩ := hrel
      by_cases hlt : k < l.length
      · rw [fault_step hlt] at hf
        have hMs := marksTo_succ hlt
        obtain ⟨b, off, rfl, hw, x0, x1, x2, x3, x4, x5, x6⟩ := els_piece (HI.out.below pieceRep hB (Nat.le_refl _)) hlt
        obtain ⟨p, hp⟩ : ∃ p, l[k] = p := ⟨_, rfl⟩
        rw [hp] at hf hMs hw x0 x1 x2 x3 x4 x5 x6
        have hr := fun o => pright_any (wr.alloc o) p hw
        unfold Piece.V at hr
        have hz0 : (0 : Int) ≤ (k : Int) := by omega
        have hz1 : (k : Int) < (l.length : Int) := by omega
        have hBr := hB.size
        have hfe : ∀ (r : Nat × Int), fault l 0 l = some r → linkS l = (([], (r.1 : Int)), r.2) := fun r hr => by unfold linkS; rw [if_neg (by omega), hr]
        have hM1 : ∀ o, MapI w.heap.size k (marksTo l k) (wr.alloc o) := fun o => hM.below ((Below.refl _ _).alloc (Nat.le_refl _) o)
        cases hpr : p.right with
        | false =>
          rw [hpr] at hr hf
          have hres := hfe (k, 170) hf
          have HR := Lib.hid hr; have Hres := Lib.hid hres; have HM1 := Lib.hid hM1; have Hp := Lib.hid hp
          clear hr hf hMs hM hfe hres hM1 hpr hp
          go_wp2_with fail
          refine (HR.out _).mono ?_
          rintro e w2 ⟨rfl, hb⟩
          have hM2 := (HM1.out _).below hb
          have hB2 : Below w.heap.size w w2 := bAfter (hB.alloc hB.size _) (by have := hB.size; simp; omega) hb
          go_wp2_with fail
          refine postB_ret (end_clear hM2 fun w3 hg => ⟨.tuple #[.slice none 0 0, .int .i64 (k : Int), .int .i64 170], by simp [results, Try.results11], ?_, hB2.grown hg hB2.size (fun j e => by cases e; exact Nat.le_refl _)⟩)
          rw [Hres.out]; exact ⟨_, rfl, RowIns.nil _ _⟩
        | true =>
          rw [hpr] at hr
          rw [if_neg (by rw [hpr]; simp)] at hf
          have hwm : (Lit.int .i64 p.mark).wf = true := by have := hw.mark; simp [Lit.wf, IntKind.min, IntKind.max, IntKind.signed, IntKind.bits]; omega
          have hwk : (Lit.int .i64 (k : Int)).wf = true := by simp [Lit.wf, IntKind.min, IntKind.max, IntKind.signed, IntKind.bits]; omega
          have hw0 : (Lit.int .i64 0).wf = true := by decide
          have HR := Lib.hid hr; have HM1 := Lib.hid hM1; have Hp := Lib.hid hp; have Hwm := Lib.hid hwm; have Hwk := Lib.hid hwk; have Hw0 := Lib.hid hw0; have HMs := Lib.hid hMs
          clear hr hM hM1 hpr hp hwm hwk hw0 hMs
          cases hMk : marksTo l k p.mark with
          | some v =>
            rw [hMk] at hf
            simp only [Option.isSome_some, if_true] at hf
            have hres := hfe (k, 171) hf
            have Hres := Lib.hid hres; have HMk := Lib.hid hMk; clear hf hfe hres hMk
            go_wp2_with fail
            refine (HR.out _).mono ?_
            rintro e w2 ⟨rfl, hb⟩
            have hM2 := (HM1.out _).below hb
            have hB2 : Below w.heap.size w w2 := bAfter (hB.alloc hB.size _) (by have := hB.size; simp; omega) hb
            have c0 : w2.cell? ⟨wr.heap.size, 0, none⟩ = some (.int .i64 p.mark) := by rw [hb.cell (p := ⟨wr.heap.size, 0, none⟩) (by simp)]; simp [go_sem]
            go_wp2_with (at_lookup; refine mapI_some rfl _ _ rfl rfl hM2 p.mark rfl Hwm.out v HMk.out ?_)
            refine postB_ret (end_clear hM2 fun w3 hg => ⟨.tuple #[.slice none 0 0, .int .i64 (k : Int), .int .i64 171], by simp [results, Try.results11], ?_, hB2.grown hg hB2.size (fun j e => by cases e; exact Nat.le_refl _)⟩)
            rw [Hres.out]; exact ⟨_, rfl, RowIns.nil _ _⟩
          | none =>
            rw [hMk] at hf
            simp only [Option.isSome_none, Bool.false_eq_true, if_false] at hf
            have Hf := Lib.hid hf; have HMk := Lib.hid hMk; clear hf hfe hMk
            go_wp2_with fail
            refine (HR.out _).mono ?_
            rintro e w2 ⟨rfl, hb⟩
            have hM2 := (HM1.out _).below hb
            have hB2 : Below w.heap.size w w2 := bAfter (hB.alloc hB.size _) (by have := hB.size; simp; omega) hb
            have c0 : w2.cell? ⟨wr.heap.size, 0, none⟩ = some (.int .i64 p.mark) := by rw [hb.cell (p := ⟨wr.heap.size, 0, none⟩) (by simp)]; simp [go_sem]
            have hz2 : wr.heap.size < w2.heap.size := by have := hb.size; simp at this; omega
            go_wp2_with (first
              | (at_lookup; refine mapI_none rfl _ _ rfl rfl hM2 p.mark rfl Hwm.out HMk.out ?_; intro cc)
              | (at_mapUpdate; refine mapI_put rfl _ _ _ rfl rfl hM2 (by unfold maxLen; omega) p.mark (k : Int) rfl rfl Hwm.out Hwk.out ?_; intro w3 hM3 hg3)
              | (at_delete; refine mapI_del rfl _ _ rfl rfl hM3 0 rfl Hw0.out ?_; intro w4 hM4 hg4))
            go_roundw
            case rel =>
              refine ⟨k + 1, by omega, by go_num, by rw [HMs.out]; exact hM4, ?_, Hf.out⟩
              exact (hB2.grown hg3 hB2.size (fun j e => by cases e; exact Nat.le_refl _)).grown hg4 (Nat.le_trans hB2.size hg3.size) (fun j e => by cases e; exact Nat.le_refl _)
            case measure => simp [intOf]; omega
      · obtain rfl : k = l.length := by omega
        have hf0 : fault l 0 l = none := by rw [hf, List.drop_length]; rfl
        obtain ⟨M, hMe⟩ : ∃ M, marksTo l l.length = M := ⟨_, rfl⟩
        have hbd : ∀ m v, M m = some v → 0 ≤ v ∧ v < l.length := fun m v h => marksTo_lt (Nat.le_refl _) (by rw [hMe]; exact h)
        have Hbd := Lib.hid hbd; clear hbd
        rw [hMe] at hM
        have hlost : ∀ i, lost M 0 l = some i → linkS l = (([], (i : Int)), 172) := fun i hi => by unfold linkS; rw [if_neg (by omega), hf0]; simp only []; rw [hMe, hi]
        have hnone : lost M 0 l = none → linkS l = ((l.map (placed M), 0), 0) := fun hi => by unfold linkS; rw [if_neg (by omega), hf0]; simp only []; rw [hMe, hi]
        obtain ⟨i0, hi, hz0, hz1, hz2⟩ := info_parts Try.infoI
        have Hi := Lib.hid hi; have Hz0 := Lib.hid hz0; have Hz1 := Lib.hid hz1; have Hz2 := Lib.hid hz2; clear hi hz0 hz1 hz2
        have Hlost := Lib.hid hlost; have Hnone := Lib.hid hnone
        clear hf hf0 hMe hlost hnone
        have hBs := hB.size
        go_wp2_with (at_make; refine wpList_make_full _ rfl _ _ 24 rfl w.heap.size 35 i0 _ 5 Try.underlying24 Hi.out Hz0.out Hz1.out _ _ _ _ l.length rfl rfl rfl rfl ?c2 ?c3 ?c4 ?_)
        case c2 => rw [Hz2.out]; omega
        case c3 => unfold maxLen; omega
        case c4 => exact hBs
        intro w2 hown hgrow
        rw [made_ins] at hown
        have hrow : w2.heap[wr.heap.size]? = some (.cells ((outsK M l 0).flatMap Ins.enc).toArray 35 (0, 0)) := by
          obtain ⟨_, ⟨hv, _⟩ | ⟨g', cap, cur, hv, _, hg, _, _, hcs, ht⟩⟩ := hown
          · cases hv
          · cases hv
            rw [hg]
            congr 2
            rw [List.take_of_length_le (by simp [hcs])] at ht
            have : outsK M l 0 = List.replicate l.length zeroI := by unfold outsK; simp
            rw [this, ← ht]
        have hM2 : MapI w.heap.size l.length M w2 := hM.kept (hgrow.block _ hM.lt (by simp))
        have hB2 : Below w.heap.size w w2 := hB.grown hgrow hBs (by simp)
        have hGl : wr.heap.size < w2.heap.size := (Array.getElem?_eq_some_iff.1 hrow).1
        have hGm : w.heap.size < wr.heap.size := hM.lt
        obtain ⟨G, hG⟩ : ∃ G, wr.heap.size = G := ⟨_, rfl⟩
        rw [hG] at hrow hGl hGm ⊢
        have Hrow := Lib.hid hrow; have HM2 := Lib.hid hM2; have HB2 := Lib.hid hB2
        clear hown hgrow hM hB hrow hM2 hB2 hG hBs
        go_wp2_with fail
        go_loopw [51] (fun i wr => ∃ k : Nat, k ≤ l.length ∧ i = .int .i64 (k : Int) ∧ MapI w.heap.size l.length M wr ∧ Below w.heap.size w wr ∧ wr.heap[G]? = some (.cells ((outsK M l k).flatMap Ins.enc).toArray 35 (0, 0)) ∧ lost M 0 l = lost M k (l.drop k)) (fun i _ => l.length - (intOf i).toNat)
        case atStart => exact ⟨0, Nat.zero_le _, rfl, HM2.out, HB2.out, Hrow.out, rfl⟩
        case round =>
          obtain ⟨k, hk, rfl, hM, hB, hrow, hlo⟩ := hrel
          by_cases hlt : k < l.length
          · rw [lost_step hlt] at hlo
            have hset := outsK_set (M := M) hlt
            obtain ⟨b, off, rfl, hw, x0, x1, x2, x3, x4, x5, x6⟩ := els_piece (HI.out.below pieceRep hB (Nat.le_refl _)) hlt
            obtain ⟨p, hp⟩ : ∃ p, l[k] = p := ⟨_, rfl⟩
            rw [hp] at hlo hset hw x0 x1 x2 x3 x4 x5 x6
            have hz0 : (0 : Int) ≤ (k : Int) := by omega
            have hz1 : (k : Int) < (l.length : Int) := by omega
            have hol := outsK_len M l hk
            obtain ⟨g0, g1, g2, g3, g4⟩ := flat_get (outsK M l k) k (by rw [hol]; exact hlt)
            have hfr : ∀ o j, (wr.alloc o).frozen? ⟨G, j, none⟩ = false := fun o j => frozen_of_row _ _ j _ _ ((Below.heap_alloc _ _ _ (Array.getElem?_eq_some_iff.1 hrow).1).trans hrow)
            have hcl : ∀ o j, (wr.alloc o).cell? ⟨G, j, none⟩ = ((outsK M l k).flatMap Ins.enc)[j]? := fun o j => by
              rw [cell_of_row _ G j _ _ _ ((Below.heap_alloc _ _ _ (Array.getElem?_eq_some_iff.1 hrow).1).trans hrow)]
              simp
            have hG1 : G < wr.heap.size := (Array.getElem?_eq_some_iff.1 hrow).1
            have hM1 : ∀ o, MapI w.heap.size l.length M (wr.alloc o) := fun o => hM.below ((Below.refl _ _).alloc (Nat.le_refl _) o)
            have hrow1 : ∀ o, (wr.alloc o).heap[G]? = some (.cells ((outsK M l k).flatMap Ins.enc).toArray 35 (0, 0)) := fun o => (Below.heap_alloc _ _ _ hG1).trans hrow
            have hwm : (Lit.int .i64 p.to).wf = true := by have := hw.to; simp [Lit.wf, IntKind.min, IntKind.max, IntKind.signed, IntKind.bits]; omega
            have Hset := Lib.hid hset; have Hlo := Lib.hid hlo; have HM1 := Lib.hid hM1; have HR1 := Lib.hid hrow1; have Hp := Lib.hid hp; have Hol := Lib.hid hol; have Hwm := Lib.hid hwm
            clear hset hlo hM hrow hp hol hM1 hrow1 hwm g0 g1 g2 g3 g4 hcl hfr
            by_cases ht : p.to = 0
            · have ht' : (p.to == 0) = true := by simpa using ht
              have Ht := Lib.hid ht; clear ht
              go_wp2_with ((with_reducible show wpList _ _ _ ({ dst := none, op := Op.store 35 (.tmp 60) (.tmp 59), type := _, pos := _, after := _, guard := _ } :: _) _ _); refine wpList_store_elem rfl 5 Ins.enc (fun _ => rfl) (fun x => insRep_one x) 35 _ _ rfl G k (outsK M l k) (by rw [Hol.out]; exact hlt) p.ins rfl rfl 35 (HR1.out _) (by kernel_rfl) ?_; intro w3 hr3 hg3; have c6 : w3.cell? ⟨wr.heap.size, 6, none⟩ = some (.int .i64 p.to) := (World.cell?_of_block (hg3.block wr.heap.size (by simp) (by simp; omega))).trans (by simp [go_sem]))
              go_roundw
              case rel =>
                refine ⟨k + 1, by omega, by go_num, (HM1.out _).kept (hg3.block _ (by simp; omega) (by simp; omega)), (hB.alloc hB.size _).grown hg3 (by have := hB.size; simp; omega) (fun j e => by cases e; omega), ?_, ?_⟩
                · have e : placed M l[k] = p.ins := by unfold placed; rw [Hp.out, if_pos Ht.out]
                  rw [← Hset.out, ← Hp.out, e]; exact hr3
                · rw [Hlo.out, if_neg (fun h => h.1 Ht.out)]
              case measure => simp [intOf]; omega
            · have ht' : (p.to == 0) = false := by simpa using ht
              cases hMt : M p.to with
              | none =>
                have hno := Hlo.out
                rw [if_pos ⟨ht, hMt⟩] at hno
                have Hno := Lib.hid (Hlost.out k hno); have HMt := Lib.hid hMt
                clear ht hMt hno
                go_wp2_with (first
                  | ((with_reducible show wpList _ _ _ ({ dst := none, op := Op.store 35 (.tmp 60) (.tmp 59), type := _, pos := _, after := _, guard := _ } :: _) _ _); refine wpList_store_elem rfl 5 Ins.enc (fun _ => rfl) (fun x => insRep_one x) 35 _ _ rfl G k (outsK M l k) (by rw [Hol.out]; exact hlt) p.ins rfl rfl 35 (HR1.out _) (by kernel_rfl) ?_; intro w3 hr3 hg3; have c6 : w3.cell? ⟨wr.heap.size, 6, none⟩ = some (.int .i64 p.to) := (World.cell?_of_block (hg3.block wr.heap.size (by simp) (by simp; omega))).trans (by simp [go_sem]))
                  | (at_lookup; have hM3 := (HM1.out _).kept (hg3.block w.heap.size (by simp; omega) (by simp; omega)); refine mapI_none rfl _ _ rfl rfl hM3 p.to rfl Hwm.out HMt.out ?_; intro cc))
                refine postB_ret (end_clear hM3 fun w4 hg => ⟨.tuple #[.slice none 0 0, .int .i64 (k : Int), .int .i64 172], by simp [results, Try.results11], ?_, ((hB.alloc hB.size _).grown hg3 (by have := hB.size; simp; omega) (fun j e => by cases e; omega)).grown hg (Nat.le_trans hB.size (Nat.le_trans (by simp) hg3.size)) (fun j e => by cases e; exact Nat.le_refl _)⟩)
                rw [Hno.out]; exact ⟨_, rfl, RowIns.nil _ _⟩
              | some v =>
                have hno := Hlo.out
                rw [if_neg (fun h => by rw [hMt] at h; cases h.2)] at hno
                obtain ⟨v0, v1⟩ := Hbd.out _ _ hMt
                have Hno := Lib.hid hno; have HMt := Lib.hid hMt; have Ht := Lib.hid ht
                clear ht hMt hno
                go_wp2_with (first
                  | ((with_reducible show wpList _ _ _ ({ dst := none, op := Op.store 35 (.tmp 60) (.tmp 59), type := _, pos := _, after := _, guard := _ } :: _) _ _); refine wpList_store_elem rfl 5 Ins.enc (fun _ => rfl) (fun x => insRep_one x) 35 _ _ rfl G k (outsK M l k) (by rw [Hol.out]; exact hlt) p.ins rfl rfl 35 (HR1.out _) (by kernel_rfl) ?_; intro w3 hr3 hg3; have c6 : w3.cell? ⟨wr.heap.size, 6, none⟩ = some (.int .i64 p.to) := (World.cell?_of_block (hg3.block wr.heap.size (by simp) (by simp; omega))).trans (by simp [go_sem]))
                  | (at_lookup; have hM3 := (HM1.out _).kept (hg3.block w.heap.size (by simp; omega) (by simp; omega)); have cI : w3.cell? ⟨G, k * 5 + 4, none⟩ = some (.int .i32 p.ins.imm) := (by rw [cell_of_row w3 G _ _ _ _ hr3]; simp only [List.getElem?_toArray]; rw [flatMap_get (enc := Ins.enc) (n := 5) (fun _ => rfl) _ k (by rw [List.length_set, Hol.out]; exact hlt) 4 (by omega), List.getElem_set_self]; rfl); have fI : w3.frozen? ⟨G, k * 5 + 4, none⟩ = false := frozen_of_row w3 G _ _ _ hr3; refine mapI_some rfl _ _ rfl rfl hM3 p.to rfl Hwm.out v HMt.out ?_))
                go_roundw
                case rel =>
                  have hB3 : Below w.heap.size w w3 := (hB.alloc hB.size _).grown hg3 (by have := hB.size; simp; omega) (fun j e => by cases e; omega)
                  refine ⟨k + 1, by omega, by go_num, hM3.kept (Below.heap_setCell _ ⟨G, k * 5 + 4, none⟩ _ _ (by show w.heap.size ≠ G; omega)), hB3.setCell (p := ⟨G, k * 5 + 4, none⟩) (by show w.heap.size ≤ G; omega) _, ?_, Hno.out⟩
                  rw [heap_setCell_same w3 G _ _ _ _ hr3]
                  have e : placed M l[k] = { p.ins with imm := v } := by unfold placed; rw [Hp.out, if_neg Ht.out, HMt.out]; rfl
                  have hlk : k < ((outsK M l k).set k p.ins).length := by rw [List.length_set, Hol.out]; exact hlt
                  have h1 := flat_imm v ((outsK M l k).set k p.ins) k hlk
                  rw [List.getElem_set_self, List.set_set, ← e, Hp.out, Hset.out] at h1
                  rw [← h1]
                  simp
                case measure => simp [intOf]; omega
          · obtain rfl : k = l.length := by omega
            have hnone := Hnone.out (by rw [hlo, List.drop_length]; rfl)
            rw [outsK_all] at hrow
            have Hn := Lib.hid hnone
            clear hnone
            go_wp2_with fail
            refine postB_ret (end_clear hM fun w4 hg => ⟨.tuple #[.slice (some ⟨G, 0, none⟩) l.length l.length, .int .i64 0, .int .i64 0], by simp [results, Try.results11], ?_, hB.grown hg hB.size (fun j e => by cases e; exact Nat.le_refl _)⟩)
            rw [Hn.out]
            refine ⟨_, rfl, by rw [flatMap_len (n := 5) (fun _ => rfl)], .inr ⟨G, l.length, _, by simp, by omega, (hg.block G (Array.getElem?_eq_some_iff.1 hrow).1 (by simp; omega)).trans hrow, by simp, by unfold maxLen; omega, ?_, ?_⟩⟩
            · simp only [List.size_toArray]; rw [flatMap_len (n := 5) (fun _ => rfl)]; simp
            · simp only 
              rw [List.take_of_length_le (by rw [flatMap_len (n := 5) (fun _ => rfl)]; exact Nat.le_refl _)]
end Go.Proofs.Ytegjcghcknpjeaa
