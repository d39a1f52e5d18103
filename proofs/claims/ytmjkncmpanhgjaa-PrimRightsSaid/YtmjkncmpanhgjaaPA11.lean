import Derived.Test.YtmjkncmpanhgjaaPA6
import Derived.Deep.RegionHeld3
import Derived.Outline
import Derived.Deep.DeepCutAuto
import Derived.Deep.CutBlock
import Derived.Laws.Rows
import Derived.Laws.Tables
import Derived.Test.YtmjkncmpanhgjaaPA9
import Derived.Test.YtmjkncmpanhgjaaPA10
import Derived.Lib.AppendZeros
namespace Go.Proofs.Ytmjkncmpanhgjaa
set_option linter.unusedVariables false
set_option linter.unusedSimpArgs false
set_option maxRecDepth 100000
open Go.RowKit

/-! Whole structs, loaded from blocks of their own and stored there (the macros LDW, STW of fill.py). -/
theorem wpList_storeW {P : Program} {ops : Array Oper} {rest : List Oper} {o : Oper} {a : Act} {w : World} {Q : Exit → Act → World → Prop} (hgd : o.guard = none) (ty : TypeId) (x y : Operand) (ho : o.op = .store ty x y)
    (g : Nat) (hx : a.eval x = .pointer (some ⟨g, 0, none⟩)) (c c' : Array Value) (hy : a.eval y = .agg c') (t : TypeId) (hg : w.heap[g]? = some (.cells c t (0, 0))) (hi : (P.info? ty).map (·.size) = some c'.size) (hs : c.size = c'.size) (h1 : (c'.toList.all fun v => v.oneCell') = true)
    (h : ∀ w', w'.heap[g]? = some (.cells c' t (0, 0)) → w.grownBy w' (some g) → wpList P ops Q rest (a.put o.dst undef) w') : wpList P ops Q (o :: rest) a w := by
  refine wpList_plain hgd fun _ hK => ?_
  have hall : c'.all (·.oneCell') = true := Array.all_eq_true_iff_forall_mem.2 (fun v hv => List.all_eq_true.1 h1 v (by simpa using hv))
  unfold Oper.wp execOp
  simp only [ho, hx, hy, Instr.storeAt, Instr.sureAddr, Sem.run_bind, Sem.run_pure, Result.andThen_ok, run_storeVar_row (P := P) w g t ty c c' hg hi hs hall]
  exact hK _ _ (h _ (setRow_heap w g _ _ t _ hg) ⟨rfl, rfl, rfl, by simp [World.setRow], fun j _ hj => setRow_other w g j _ (fun e => hj (by rw [e]))⟩)
theorem wpList_loadW {P : Program} {ops : Array Oper} {rest : List Oper} {o : Oper} {a : Act} {w : World} {Q : Exit → Act → World → Prop} (hw : Region.wanted o (yielded ops a.tmps) = true) (ty : TypeId) (x : Operand) (ho : o.op = .load ty x)
    (g : Nat) (hx : a.eval x = .pointer (some ⟨g, 0, none⟩)) (t : TypeId) (cs : Array Value) (fr : Nat × Nat) (d : TypeDesc) (hg : w.heap[g]? = some (.cells cs t fr))
    (hu : P.underlying ty = some d) (hd : (match d with | .struct _ | .array _ _ => true | _ => false) = true) (hi : (P.info? ty).map (·.size) = some cs.size)
    (h : wpList P ops Q rest (a.put o.dst (.agg cs)) w) : wpList P ops Q (o :: rest) a w :=
  wpList_step fun K hK => by rw [if_pos hw]; exact wp_load_row ty x ho g hx t cs fr d hg hu hd hi (hK _ _ h)
theorem gen_worldA {P : Program} {c : Code} {Q : Exit → Act → World → Prop} {a : Act} {w0 : World} (F : World → Prop) (h0 : F w0) (h : ∀ W, F W → c.wp P Q a W) : c.wp P Q a w0 := h w0 h0
/-- blocks behind one and two new ones -/
theorem new1 {w w1 : World} {o : Obj} (h : Below (w.alloc o).heap.size (w.alloc o) w1) : w1.heap[w.heap.size]? = some o := (h.block _ (by simp)).trans (World.alloc_heap_new _ _)
theorem new2 {w w1 : World} {o o2 : Obj} (h : Below ((w.alloc o).alloc o2).heap.size ((w.alloc o).alloc o2) w1) : w1.heap[w.heap.size]? = some o ∧ w1.heap[w.heap.size + 1]? = some o2 :=
  ⟨(h.block _ (by simp; omega)).trans ((Below.heap_alloc _ _ _ (by simp)).trans (World.alloc_heap_new _ _)), (h.block _ (by simp)).trans ((congrArg (fun n => ((w.alloc o).alloc o2).heap[n]?) (by simp)).trans (World.alloc_heap_new _ _))⟩
end Go.Proofs.Ytmjkncmpanhgjaa

namespace Go.Proofs.Ytmjkncmpanhgjaa
set_option maxRecDepth 100000
open Go.RowKit
set_option linter.unusedVariables false
set_option linter.unusedSimpArgs false

/-! prim's small functions: fault, good, of, call, done; the reference's no, made. -/
theorem ArrBox.not (w : World) {g : Nat} {cs : Array Value} (h : w.heap[g]? = some (.cells cs 24 (0, 0))) : NotTy 2 w g := NotTy.of h (by decide)
/-- what lies in a result's block is what is told -/
theorem RetArr.put {B R : Nat} {w : World} {v u : Value} {r : ArrE} {cs : Array Value} (hv : RowI B w v r.1.1) (hu : RowI B w u r.1.2) (hap : Apart v u) (hR : w.heap[R]? = some (.cells cs 24 (0, 0))) :
    RetArr B r (.returned (.tuple #[.agg #[v, u], .int .i64 r.2])) ((w.setCell ⟨R, 0, none⟩ v).setCell ⟨R, 1, none⟩ u) := by
  have h1 : KeepTy 2 w (w.setCell ⟨R, 0, none⟩ v) := KeepTy.setCell (p := ⟨R, 0, none⟩) (NotTy.of hR (by decide)) _
  have hR1 : (w.setCell ⟨R, 0, none⟩ v).heap[R]? = some (.cells (cs.setIfInBounds 0 v) 24 (0, 0)) := heap_setCell_same w R 0 _ _ _ hR
  have h2 : KeepTy 2 (w.setCell ⟨R, 0, none⟩ v) ((w.setCell ⟨R, 0, none⟩ v).setCell ⟨R, 1, none⟩ u) := KeepTy.setCell (p := ⟨R, 1, none⟩) (NotTy.of hR1 (by decide)) _
  exact ⟨v, u, rfl, own_keep hv (h1.trans h2), own_keep hu (h1.trans h2), hap⟩
theorem RetArr.no (B : Nat) (w : World) (x : Int) : RetArr B (noA x) (.returned (.tuple #[.agg #[.slice none 0 0, .slice none 0 0], .int .i64 x])) w := ⟨_, _, rfl, RowI.nil _ _, RowI.nil _ _, .inl rfl⟩
theorem put_below {B R : Nat} {w w' : World} (h : Below B w w') (hR : B ≤ R) (v u : Value) : Below B w ((w'.setCell ⟨R, 0, none⟩ v).setCell ⟨R, 1, none⟩ u) :=
  (h.setCell (p := ⟨R, 0, none⟩) hR _).setCell (p := ⟨R, 1, none⟩) hR _
theorem fault_any (w : World) (x : Int) : Calls Try.prog 32 #[.int .i64 x] w fun e w' => RetArr w.heap.size (noA x) e w' ∧ Below w.heap.size w w' := by
  go_enter Try.func32, Try.ntmps32
  go_wp2_with fail
  refine bodyPost_ret (v := .tuple #[.agg #[.slice none 0 0, .slice none 0 0], .int .i64 x]) (by simp [results, Try.results32, go_sem]) rfl ⟨RetArr.no _ _ _, (Below.refl _ _).alloc (Nat.le_refl _) _⟩
theorem rno_any (w : World) (x : Int) : Calls Try.prog 42 #[.int .i64 x] w fun e w' => RetArr w.heap.size (noA x) e w' ∧ Below w.heap.size w w' := by
  go_enter Try.func42, Try.ntmps42
  go_wp2_with fail
  refine bodyPost_ret (v := .tuple #[.agg #[.slice none 0 0, .slice none 0 0], .int .i64 x]) (by simp [results, Try.results42, go_sem]) rfl ⟨RetArr.no _ _ _, (Below.refl _ _).alloc (Nat.le_refl _) _⟩
set_option maxHeartbeats 1000000 in
theorem good_any (w : World) (B : Nat) (hB : B ≤ w.heap.size) (a : Option Addr) (n c : Nat) (s d : List Int) (v : Value) (hn : n = s.length) (hs : s.length ≤ 17592186044416) (h : IntsAt .i64 w a s) (hv : RowI B w v d) :
    Calls Try.prog 34 #[.slice a n c, v] w fun e w' => RetArr B (okA s d) e w' ∧ Below w.heap.size w w' := by
  subst hn
  have hq := fun o => clone_n (w.alloc o) a s.length c s rfl hs (h.below ((Below.refl _ w).alloc (Nat.le_refl _) o) (Nat.le_refl _))
  have HQ := Lib.hid hq; have HV := Lib.hid hv
  obtain ⟨a1, c1, rfl, -, -⟩ := hv.slice
  clear hq h
  go_enter Try.func34, Try.ntmps34
  go_wp2_with fail
  refine (HQ.out _).mono ?_
  rintro e w1 ⟨⟨u, rfl, hu⟩, hb1⟩
  have hR : w1.heap[w.heap.size]? = some (.cells #[.slice none 0 0, .slice none 0 0] 24 (0, 0)) := block_below (World.alloc_heap_new _ _) hb1
  have hv1 : RowI B w1 (.slice a1 d.length c1) d := (HV.out.below ((Below.refl _ w).alloc (Nat.le_refl _) _)).below hb1
  have hbb : Below w.heap.size w w1 := ((Below.refl _ w).alloc (Nat.le_refl _) _).trans (hb1.mono (by simp))
  have hu1 : RowI B w1 u s := own_mono hu (by simp; omega)
  have hap : Apart u (.slice a1 d.length c1) := (Apart.of_rows (HV.out.below ((Below.refl _ w).alloc (Nat.le_refl _) _)) hu).symm
  obtain ⟨a2, c2, rfl, -, -⟩ := hu.slice
  have HR := Lib.hid hR; have HV1 := Lib.hid hv1; have HU := Lib.hid hu1; have HAP := Lib.hid hap; have HBB := Lib.hid hbb
  have hlt := World.block_lt_of_cell? w1 _ (cell_of_row w1 w.heap.size 0 _ _ _ hR)
  have y0 := cell_of_row w1 w.heap.size 0 _ _ _ hR; have y1 := cell_of_row w1 w.heap.size 1 _ _ _ hR
  have f0 := frozen_of_row w1 w.heap.size 0 _ _ hR; have f1 := frozen_of_row w1 w.heap.size 1 _ _ hR
  clear hR hv1 hu hu1 hap hbb hb1 HQ HV hv
  go_wp2_with fail
  refine bodyPost_ret (v := .tuple #[.agg #[.slice a2 s.length c2, .slice a1 d.length c1], .int .i64 0]) (by simp [results, Try.results34, go_sem, y0, y1]) rfl ⟨RetArr.put (r := okA s d) HU.out HV1.out HAP.out HR.out, put_below HBB.out (Nat.le_refl _) _ _⟩
/-! the pair -/
structure PairAt (w : World) (P : Nat) (F : Nat) (f wrong : Int) : Prop where
  p : w.heap[P]? = some (.cells #[.func (.func 80) #[] #[.pointer (some ⟨F, 0, none⟩)], .int .i64 wrong] 86 (0, 0))
  f : w.heap[F]? = some (.cells #[.int .u8 f] 29 (0, 0))
theorem PairAt.below {w w' : World} {P F : Nat} {f wrong : Int} (h : PairAt w P F f wrong) (hb : Below w.heap.size w w') : PairAt w' P F f wrong := ⟨block_below h.p hb, block_below h.f hb⟩
theorem PairAt.ne {w : World} {P F : Nat} {f wrong : Int} (h : PairAt w P F f wrong) : F ≠ P := by
  intro e; subst e
  have := h.p.symm.trans h.f
  simp at this
theorem PairAt.lt {w : World} {P F : Nat} {f wrong : Int} (h : PairAt w P F f wrong) : P < w.heap.size := (Array.getElem?_eq_some_iff.1 h.p).1
theorem PairAt.not {w : World} {P F : Nat} {f wrong : Int} (h : PairAt w P F f wrong) {t : TypeId} (ht : 86 ≠ t) : NotTy t w P := NotTy.of h.p ht
theorem of_any (w : World) (f : Int) : Calls Try.prog 51 #[.int .u8 f] w fun e w' => e = .returned (.pointer (some ⟨w.heap.size + 1, 0, none⟩)) ∧ PairAt w' (w.heap.size + 1) w.heap.size f 0 ∧ Below w.heap.size w w' := by
  go_enter Try.func51, Try.ntmps51
  go_wp2_with fail
  go_ret
  refine ⟨by simp, ⟨?_, ?_⟩, ?_⟩
  · have := World.alloc_heap_new (w.alloc (.cells #[.int .u8 f] 29)) (.cells #[.func (.func 80) #[] #[.pointer (some ⟨w.heap.size, 0, none⟩)], .int .i64 0] 86)
    simpa using this
  · exact block_alloc (World.alloc_heap_new _ _) _
  · exact ((Below.refl _ _).alloc (Nat.le_refl _) _).alloc (by simp) _
/-- what a pair makes of two numbers, and what it then remembers -/
def callV (f a b : Int) : Int := if refusesB f a b then 0 else dyv f a b
def callE (f a b : Int) : Int := if refusesB f a b then 11 else 0
theorem dyadF_call {f a b : Int} (h : takes f true = true) : dyadF f a b = (callV f a b, callE f a b) := by
  unfold dyadF callV callE
  rw [if_pos h]
  cases refusesB f a b <;> rfl
theorem of1_any (w : World) (f a b : Int) (F : Nat) (hf : w.cell? ⟨F, 0, none⟩ = some (.int .u8 f)) (ht : takes f true = true) (ha : In64 a) (hb : In64 b) :
    Calls Try.prog 80 #[.int .i64 a, .int .i64 b, .pointer (some ⟨F, 0, none⟩)] w fun e w' => e = .returned (.tuple #[.int .i64 (callV f a b), .int .i64 (callE f a b)]) ∧ ∃ n, w' = w.drewN n := by
  have hq := dyad_at w f a b _ _ ha hb (dyadF_call ht)
  have HQ := Lib.hid hq
  clear hq ha hb
  go_enter Try.func80, Try.ntmps80
  go_wp2_with fail
  refine HQ.out.mono ?_
  rintro e w1 ⟨rfl, n, rfl⟩
  go_wp2_with fail
  go_ret2
  exact ⟨rfl, n, rfl⟩
theorem of1_in (args : Array Value) (w : World) : (callFunc 80 args).run Try.prog w = .ok (.enter 80 args) w :=
  callFunc_enter Try.func80 (by kernel_rfl) rfl args w
/-- what a pair remembers behind a call -/
def nextE (f a b wrong : Int) : Int := if refusesB f a b then 11 else wrong
set_option maxHeartbeats 1000000 in
theorem call_any (w : World) (P F : Nat) (f wrong a b : Int) (h : PairAt w P F f wrong) (ht : takes f true = true) (ha : In64 a) (hb : In64 b) :
    Calls Try.prog 53 #[.pointer (some ⟨P, 0, none⟩), .int .i64 a, .int .i64 b] w fun e w' => e = .returned (.int .i64 (callV f a b)) ∧ PairAt w' P F f (nextE f a b wrong) ∧ KB (fun g => g = P) w w' := by
  have hq := fun W => of1_any W f a b F
  have x0 := cell_of_row w P 0 _ _ _ h.p; have x1 := cell_of_row w P 1 _ _ _ h.p; have y1 := frozen_of_row w P 1 _ _ h.p
  have z0 := cell_of_row w F 0 _ _ _ h.f
  have HQ := Lib.hid (of1_any w f a b F z0 ht ha hb); have H := Lib.hid h
  unfold callE at HQ
  clear hq ha hb ht h z0
  go_enter Try.func53, Try.ntmps53
  go_wp2_with fail
  refine HQ.out.mono ?_
  rintro e w1 ⟨rfl, n, rfl⟩
  cases hr : refusesB f a b with
  | true =>
    go_wp2_with fail
    go_ret
    refine ⟨rfl, ⟨?_, ?_⟩, ((KB.refl (fun g => g = P) w).drewN n).setCell (p := ⟨P, 1, none⟩) (fun _ => rfl) _⟩
    · have : (w.drewN n).heap[P]? = _ := H.out.p
      rw [heap_setCell_same _ P 1 _ _ _ this]
      unfold nextE
      rw [hr]
      rfl
    · exact (Below.heap_setCell _ _ _ _ H.out.ne).trans H.out.f
  | false =>
    go_wp2_with fail
    go_ret
    refine ⟨rfl, ⟨?_, H.out.f⟩, (KB.refl _ _).drewN n⟩
    unfold nextE
    rw [hr]
    exact H.out.p
/-- an array, if nothing was refused -/
def doneA (wrong : Int) (s d : List Int) : ArrE := if wrong = 0 then okA s d else noA wrong
set_option maxHeartbeats 2000000 in
theorem done_any (w : World) (B P F : Nat) (f wrong : Int) (h : PairAt w P F f wrong) (s d : List Int) (v u : Value) (hB : B ≤ w.heap.size) (hv : RowI B w v s) (hu : RowI B w u d) (hap : Apart v u) :
    Calls Try.prog 54 #[.pointer (some ⟨P, 0, none⟩), v, u] w fun e w' => RetArr B (doneA wrong s d) e w' ∧ Below w.heap.size w w' := by
  have x1 := cell_of_row w P 1 _ _ _ h.p
  have hPl := h.lt
  have HV := Lib.hid hv; have HU := Lib.hid hu; have HAP := Lib.hid hap
  obtain ⟨a1, c1, rfl, -, -⟩ := hv.slice
  obtain ⟨a2, c2, rfl, -, -⟩ := hu.slice
  by_cases hw : wrong = 0
  · subst hw
    clear h hv hu hap
    go_enter Try.func54, Try.ntmps54
    go_wp2_with fail
    refine bodyPost_ret (v := .tuple #[.agg #[.slice a1 s.length c1, .slice a2 d.length c2], .int .i64 0]) (by simp [results, Try.results54, go_sem]) rfl ⟨?_, (Below.refl _ _).alloc (Nat.le_refl _) _⟩
    exact ⟨_, _, rfl, HV.out.below ((Below.refl _ _).alloc (Nat.le_refl _) _), HU.out.below ((Below.refl _ _).alloc (Nat.le_refl _) _), HAP.out⟩
  · have hd : doneA wrong s d = noA wrong := if_neg hw
    have hw' : (wrong != 0) = true := by simpa using hw
    rw [hd]
    clear h hv hu hap hd hw HV HU HAP
    go_enter Try.func54, Try.ntmps54
    go_wp2_with fail
    go_region
    go_wp2_with fail
    refine bodyPost_ret (v := .tuple #[.agg #[.slice none 0 0, .slice none 0 0], .int .i64 wrong]) (by simp [results, Try.results54, go_sem]) rfl ⟨RetArr.no _ _ _, ?_⟩
    exact ((Below.refl _ _).alloc (Nat.le_refl _) _).drew
end Go.Proofs.Ytmjkncmpanhgjaa

namespace Go.Proofs.Ytmjkncmpanhgjaa
set_option maxRecDepth 100000
open Go.RowKit
set_option linter.unusedVariables false
set_option linter.unusedSimpArgs false

/-! Rows of numbers: cells, stores; slices.Reverse, slices.Equal. -/
/-- an argument's slice of numbers -/
def SlA (w : World) (v : Value) (xs : List Int) : Prop := ∃ a c, v = .slice a xs.length c ∧ xs.length ≤ c ∧ c ≤ maxLen ∧ (a = none → c = 0) ∧ IntsAt .i64 w a xs ∧ ∀ x ∈ xs, In64 x
theorem SlA.below {w w' : World} {v : Value} {xs : List Int} (h : SlA w v xs) (hb : Below w.heap.size w w') : SlA w' v xs := by
  obtain ⟨a, c, e, h1, h2, h3, h4, h5⟩ := h
  exact ⟨a, c, e, h1, h2, h3, h4.below hb (Nat.le_refl _), h5⟩
theorem RowI.form {B : Nat} {w : World} {v : Value} {xs : List Int} (h : RowI B w v xs) (h0 : 0 < xs.length) : ∃ g cap, v = .slice (some ⟨g, 0, none⟩) xs.length cap ∧ B ≤ g ∧ g < w.heap.size := by
  obtain ⟨h1, ⟨_, hn⟩ | ⟨g, cap, cur, hv, hB, hg, _⟩⟩ := h
  · omega
  · exact ⟨g, cap, hv, hB, (Array.getElem?_eq_some_iff.1 hg).1⟩
theorem RowI.sl {B : Nat} {w : World} {v : Value} {xs : List Int} (h : RowI B w v xs) (h5 : ∀ x ∈ xs, In64 x) : SlA w v xs := by
  obtain ⟨h1, ⟨hv, hn⟩ | ⟨g, cap, cur, hv, hB, hg, hnc, hcm, hcs, ht⟩⟩ := id h
  · have hx : xs = [] := List.eq_nil_of_length_eq_zero hn
    subst hx
    exact ⟨none, 0, hv, Nat.le_refl _, Nat.zero_le _, fun _ => rfl, IntsAt.nil _ _ _, h5⟩
  · obtain ⟨a, c, e, _, hi⟩ := h.slice
    rw [hv] at e
    cases e
    exact ⟨_, _, hv, hnc, hcm, (fun e => by cases e), hi, h5⟩
theorem RowI.at {B g n c : Nat} {w : World} {xs : List Int} (h : RowI B w (.slice (some ⟨g, 0, none⟩) n c) xs) {k : Nat} (hk : k < xs.length) : w.cell? ⟨g, k, none⟩ = some (.int .i64 (xs.getD k 0)) := by
  have hn : xs.length = n := by
    obtain ⟨a, c', e, _⟩ := h.slice
    cases e; rfl
  subst hn
  rw [World.ownsRow.cellAt h k (by simpa using hk)]
  simp [hk]
theorem RowI.fr {B g n c : Nat} {w : World} {xs : List Int} (h : RowI B w (.slice (some ⟨g, 0, none⟩) n c) xs) (k : Nat) : w.frozen? ⟨g, k, none⟩ = false := by
  have hn : xs.length = n := by
    obtain ⟨a, c', e, _⟩ := h.slice
    cases e; rfl
  subst hn
  exact World.ownsRow.frozenAt h k
theorem RowI.set {B g n c : Nat} {w : World} {xs : List Int} (h : RowI B w (.slice (some ⟨g, 0, none⟩) n c) xs) (k : Nat) (y : Int) : RowI B (w.setCell ⟨g, k, none⟩ (.int .i64 y)) (.slice (some ⟨g, 0, none⟩) n c) (xs.set k y) := by
  have hn : xs.length = n := by
    obtain ⟨a, c', e, _⟩ := h.slice
    cases e; rfl
  subst hn
  have := (World.ownsRow.stored h k (.int .i64 y)).1
  unfold RowI
  rw [List.map_set, List.length_set]
  exact this
theorem RowI.drewN {B : Nat} {w : World} {v : Value} {xs : List Int} (h : RowI B w v xs) (n : Nat) : RowI B (w.drewN n) v xs := h.below (Below.drewN _ _)
theorem RowI.len {B n c : Nat} {a : Option Addr} {w : World} {xs : List Int} (h : RowI B w (.slice a n c) xs) : xs.length = n := by
  obtain ⟨a, c', e, _⟩ := h.slice
  cases e; rfl
/-- k numbers of either end have changed places -/
def RevAt (xs : List Int) (k : Nat) (ys : List Int) : Prop := ys.length = xs.length ∧ ∀ i, i < xs.length → ys.getD i 0 = if i < k ∨ xs.length ≤ i + k then xs.getD (xs.length - 1 - i) 0 else xs.getD i 0
theorem RevAt.zero (xs : List Int) : RevAt xs 0 xs := ⟨rfl, fun i hi => by rw [if_neg (by omega)]⟩
theorem getD_set (l : List Int) (k i : Nat) (v : Int) : (l.set k v).getD i 0 = if k = i ∧ i < l.length then v else l.getD i 0 := by
  rw [List.getD_eq_getElem?_getD, List.getD_eq_getElem?_getD, List.getElem?_set]
  by_cases h : k = i
  · subst h
    by_cases h2 : k < l.length
    · simp [h2]
    · simp [h2]
  · simp [h]
theorem RevAt.step {xs ys : List Int} {k m : Nat} (h : RevAt xs k ys) (hm : k + m + 1 = xs.length) (hk : k < m) : RevAt xs (k + 1) ((ys.set k (ys.getD m 0)).set m (ys.getD k 0)) := by
  obtain ⟨h1, h2⟩ := h
  refine ⟨by simpa using h1, fun i hi => ?_⟩
  have e1 := h2 k (by omega)
  have e2 := h2 m (by omega)
  rw [if_neg (by omega)] at e1 e2
  rw [getD_set, getD_set, e1, e2, h2 i hi]
  simp only [List.length_set, h1]
  by_cases a1 : m = i
  · subst a1
    rw [if_pos ⟨rfl, hi⟩, if_pos (by omega)]
    congr 1; omega
  · rw [if_neg (fun e => a1 e.1)]
    by_cases a2 : k = i
    · subst a2
      rw [if_pos ⟨rfl, hi⟩, if_pos (by omega)]
      congr 1; omega
    · rw [if_neg (fun e => a2 e.1)]
      by_cases a3 : i < k ∨ xs.length ≤ i + k
      · rw [if_pos a3, if_pos (by omega)]
      · rw [if_neg a3, if_neg (by omega)]
theorem RevAt.done {xs ys : List Int} {k : Nat} (h : RevAt xs k ys) (hk : xs.length ≤ 2 * k + 1) : ys = xs.reverse := by
  obtain ⟨h1, h2⟩ := h
  apply List.ext_getElem
  · simpa using h1
  · intro i hi hi2
    have := h2 i (by omega)
    rw [List.getD_eq_getElem?_getD, List.getElem?_eq_getElem hi] at this
    simp only [Option.getD_some] at this
    rw [this, List.getElem_reverse]
    by_cases a : i < k ∨ xs.length ≤ i + k
    · rw [if_pos a, List.getD_eq_getElem?_getD, List.getElem?_eq_getElem (by omega)]; rfl
    · rw [if_neg a, List.getD_eq_getElem?_getD, List.getElem?_eq_getElem (by omega)]
      simp only [Option.getD_some]
      congr 1; omega
set_option maxHeartbeats 2000000 in
theorem reverse_any (w : World) (B : Nat) (v : Value) (xs : List Int) (h : RowI B w v xs) :
    Calls Try.prog 37 #[v] w fun e w' => e = .returned (.tuple #[]) ∧ RowI B w' v xs.reverse ∧ KB (fun g => v.ownBlock = some g) w w' := by
  have H := Lib.hid h
  obtain ⟨a, c, rfl, hm, -⟩ := h.slice
  unfold maxLen at hm
  clear h
  go_enter Try.func37, Try.ntmps37
  go_wp2_with fail
  go_loopw [2, 3] (fun i j wr => ∃ (k : Nat) (ys : List Int), i = .int .i64 k ∧ j = .int .i64 ((xs.length : Int) - 1 - k) ∧ 2 * k ≤ xs.length + 1 ∧ RevAt xs k ys ∧ RowI B wr (.slice a xs.length c) ys ∧ KB (fun g => (Value.slice a xs.length c).ownBlock = some g) w wr) (fun i _ _ => xs.length - (intOf i).toNat)
  case atStart => exact ⟨0, xs, rfl, by congr 1; omega, by omega, RevAt.zero xs, H.out, KB.refl _ _⟩
  case round =>
    obtain ⟨k, ys, rfl, rfl, hk, hrev, hrow, hkb⟩ := hrel
    by_cases hlt : 2 * k + 1 < xs.length
    · obtain ⟨m, hm1⟩ : ∃ m, k + m + 1 = xs.length := ⟨xs.length - 1 - k, by omega⟩
      have hkm : k < m := by omega
      have hys : ys.length = xs.length := hrev.1
      obtain ⟨g, c', e, -, hg⟩ := hrow.form (by omega)
      simp only [Value.slice.injEq] at e
      obtain ⟨rfl, -, -⟩ := e
      have hck := hrow.at (k := k) (by omega)
      have hcm := hrow.at (k := m) (by omega)
      have hrow2 := (hrow.drewN 1).set k (ys.getD m 0) |>.set m (ys.getD k 0)
      have hst := hrev.step hm1 hkm
      have hkb2 : KB (fun g' => (Value.slice (some ⟨g, 0, none⟩) xs.length c).ownBlock = some g') w (((wr.drewN 1).setCell ⟨g, k, none⟩ (.int .i64 (ys.getD m 0))).setCell ⟨g, m, none⟩ (.int .i64 (ys.getD k 0))) :=
        ((hkb.drewN 1).setCell (p := ⟨g, k, none⟩) (fun _ => rfl) _).setCell (p := ⟨g, m, none⟩) (fun _ => rfl) _
      generalize ys.getD k 0 = yk at hck hrow2 hst hkb2
      generalize ys.getD m 0 = ym at hcm hrow2 hst hkb2
      have hf1 := hrow.fr k; have hf2 := hrow.fr m
      have ej : (xs.length : Int) - 1 - k = (m : Nat) := by omega
      rw [ej]
      have hmn : (m : Int) < (xs.length : Int) := by omega
      have hkn : (k : Int) < (xs.length : Int) := by omega
      have hkmI : (k : Int) < (m : Int) := by omega
      have hkm' : ¬ k = m := by omega
      have hmk' : ¬ m = k := by omega
      have HM := Lib.hid hm1; have HR2 := Lib.hid hrow2; have HST := Lib.hid hst; have HKB := Lib.hid hkb2
      clear hrow hrev hys hrow2 hst hkb2 hkb ej hm1 hlt hk H
      go_wp2_with fail
      go_region
      go_wp2_with fail
      go_roundw
      case rel => exact ⟨k + 1, _, by go_num, by congr 1; have := HM.out; omega, by have := HM.out; omega, HST.out, HR2.out, HKB.out⟩
      case measure => simp [intOf]; omega
    · have HR := Lib.hid (show RowI B wr (.slice a xs.length c) xs.reverse by rw [← hrev.done (by omega)]; exact hrow)
      have HKB := Lib.hid hkb
      have hlt' : ¬ (k : Int) < (xs.length : Int) - 1 - k := by omega
      clear hrow hrev hkb H
      go_wp2_with fail
      go_end0
      exact ⟨rfl, HR.out, HKB.out⟩
end Go.Proofs.Ytmjkncmpanhgjaa

namespace Go.Proofs.Ytmjkncmpanhgjaa
set_option maxRecDepth 100000
open Go.RowKit
set_option linter.unusedVariables false
set_option linter.unusedSimpArgs false

/-! slices.Equal, slices.Grow, slices.Concat. -/
set_option maxHeartbeats 400000 in
theorem equal_any (w : World) (a b : Option Addr) (c d : Nat) (xs ys : List Int) (hm : xs.length ≤ maxLen) (hm2 : ys.length ≤ maxLen) (h : IntsAt .i64 w a xs) (h2 : IntsAt .i64 w b ys) :
    Calls Try.prog 52 #[.slice a xs.length c, .slice b ys.length d] w (SaysB (ints xs ys) w) := by
  unfold maxLen at hm hm2
  have HI := Lib.hid h; have HJ := Lib.hid h2; clear h h2
  by_cases hl : xs.length = ys.length
  · have hl' : ((xs.length : Int) != (ys.length : Int)) = false := by simp [hl]
    have Hl := Lib.hid hl; clear hl
    go_enter Try.func52, Try.ntmps52
    go_wp2_with fail
    go_loopw [13] (fun i wr => ∃ (k n : Nat), k ≤ xs.length ∧ i = .int .i64 k ∧ xs.take k = ys.take k ∧ wr = w.drewN n) (fun i _ => xs.length - (intOf i).toNat)
    case atStart => exact ⟨0, 0, Nat.zero_le _, rfl, rfl, rfl⟩
    case round =>
      obtain ⟨k, n, hk, rfl, ht, rfl⟩ := hrel
      have Ht := Lib.hid ht; clear ht
      by_cases hlt : k < xs.length
      · have hlt2 : k < ys.length := Hl.out ▸ hlt
        obtain ⟨b0, off, rfl, hcell⟩ := HI.out k hlt
        obtain ⟨b2, off2, rfl, hcell2⟩ := HJ.out k hlt2
        have hz0 : (0 : Int) ≤ (k : Int) := by omega
        have hz1 : (k : Int) < (xs.length : Int) := by omega
        have hz2 : (k : Int) < (ys.length : Int) := by omega
        by_cases hne : xs[k] = ys[k]
        · have hne' : (xs[k] != ys[k]) = false := by simpa using hne
          have Hne := Lib.hid hne; clear hne
          go_wp2_with fail
          go_quiet (fail)
          go_wp2_with fail
          go_roundw
          case rel => exact ⟨k + 1, _, by omega, by go_num, take_eq_all Hl.out hlt Ht.out Hne.out, rfl⟩
          case measure => simp [intOf]; omega
        · have hne' : (xs[k] != ys[k]) = true := by simpa using hne
          go_wp2_with fail
          go_quiet (fail)
          go_wp2_with fail
          go_ret
          refine SaysB.drewN (SaysB.mk ?_)
          have : xs ≠ ys := fun e => hne (by subst e; rfl)
          simp [ints, this]
      · go_wp2_with fail
        go_ret
        refine SaysB.mk ?_
        have ht := Ht.out
        rw [List.take_of_length_le (by omega), List.take_of_length_le (by rw [← Hl.out]; omega)] at ht
        simp [ints, ht]
  · have hl' : ((xs.length : Int) != (ys.length : Int)) = true := by simp; omega
    go_enter Try.func52, Try.ntmps52
    go_wp2_with fail
    go_ret
    refine SaysB.mk0 ?_
    have : xs ≠ ys := fun e => hl (by rw [e])
    simp [ints, this]
def RetI (B : Nat) (w : World) (xs : List Int) (e : Ending) (w' : World) : Prop := ∃ v, e = .returned v ∧ RowI B w' v xs ∧ Below w.heap.size w w'
set_option maxHeartbeats 4000000 in
theorem growI_any (w : World) (n : Nat) (hn : n ≤ 2097152) : Calls Try.prog 68 #[.slice none 0 0, .int .i64 n] w (RetI w.heap.size w []) := by
  by_cases h0 : n = 0
  · subst h0
    go_enter Try.func68, Try.ntmps68
    go_wp2_with fail
    go_ret
    exact ⟨_, rfl, RowI.nil _ _, Below.refl _ _⟩
  · have hpos : 0 < n := by omega
    obtain ⟨i0, hi, hz0, hz1, hz2⟩ := info_parts Try.info2
    have hr := fun ty => Lib.run_append_nil_zeros (P := Try.prog) w 22 3 ty 2 i0 _ .i64 .i64 Try.underlying22 Try.underlying3 hi hz0 n hpos (by rw [hz1]; decide) (by omega) (by rw [hz2]; omega)
    have hge := grownCap_ge w n 0 2
    have hle := grownCap_le_maxLen w n 0 2 (by unfold maxLen; omega)
    generalize grownCap w n 0 2 = N at hr hge hle
    have hmade : ∀ cur : Array Value, cur.size = N * 1 → RowI w.heap.size (w.drew.alloc (.cells cur 2)) (.slice (some ⟨w.heap.size, 0, none⟩) 0 N) [] := fun cur hc => World.ownsRow_made w.drew cur N (Nat.le_refl _) hle hc
    have hsz : ∀ z : Array Value, z.size = 1 → (Builtin.zeroCells z n ++ Builtin.zeroCells z (N - n)).size = N * 1 := fun z hz => by
      rw [Array.size_append, size_zeroCells, size_zeroCells, hz, ← Nat.add_mul]; congr 1; omega
    have hbel : ∀ o, Below w.heap.size w (w.drew.alloc o) := fun o => ((Below.refl _ _).drew).alloc (Nat.le_refl _) o
    have HR := Lib.hid hr; have HM := Lib.hid hmade; have HS := Lib.hid hsz; have HB := Lib.hid hbel
    unfold maxLen at hle
    clear hr hmade hsz hbel hi hz0 hz1 hz2
    go_enter Try.func68, Try.ntmps68
    go_wp2_with (at_builtin; refine Lib.wpList_append_run _ rfl _ _ _ _ rfl _ _ rfl rfl _ _ (HR.out _) ?_)
    go_ret
    exact ⟨_, rfl, HM.out _ (HS.out _ rfl), HB.out _⟩
/-- a row of rows that is only read -/
def RowsAt (w : World) (a : Option Addr) (xss : List (List Int)) : Prop := ∀ i, (h : i < xss.length) → ∃ b off u, a = some ⟨b, off, none⟩ ∧ w.cell? ⟨b, off + i, none⟩ = some u ∧
  (∃ a1 c1, u = .slice a1 xss[i].length c1) ∧ Src w u xss[i].length (xss[i].map (Value.int .i64))
theorem Src.below {w w' : World} {u : Value} {m : Nat} {news : List Value} (h : Src w u m news) (hb : Below w.heap.size w w') : Src w' u m news := by
  rcases h with h | ⟨ad, c, e, h2⟩
  · exact .inl h
  · refine .inr ⟨ad, c, e, fun j z hz => ?_⟩
    have := h2 j z hz
    exact (hb.cell (World.block_lt_of_cell? w _ this)).trans this
theorem RowsAt.below {w w' : World} {a : Option Addr} {xss : List (List Int)} (h : RowsAt w a xss) (hb : Below w.heap.size w w') : RowsAt w' a xss := fun i hi => by
  obtain ⟨b, off, u, e, hc, hf, hs⟩ := h i hi
  exact ⟨b, off, u, e, (hb.cell (World.block_lt_of_cell? w _ hc)).trans hc, hf, hs.below hb⟩
theorem RowI.src {B : Nat} {w : World} {v : Value} {xs : List Int} (h : RowI B w v xs) : Src w v xs.length (xs.map (Value.int .i64)) := ownsRow_src h
theorem SlA.src {w : World} {v : Value} {xs : List Int} (h : SlA w v xs) : Src w v xs.length (xs.map (Value.int .i64)) := by
  obtain ⟨a, c, rfl, h1, h2, h3, h4, h5⟩ := h
  cases a with
  | none =>
    have hc := h3 rfl
    have hx : xs = [] := List.eq_nil_of_length_eq_zero (by omega)
    subst hx
    exact .inl ⟨by rw [hc]; rfl, rfl, rfl⟩
  | some ad =>
    refine .inr ⟨ad, c, rfl, fun j z hz => ?_⟩
    by_cases h0 : 0 < xs.length
    · obtain ⟨ad', e, hs⟩ := h4.src h0; cases e; exact hs j z hz
    · have hx : xs = [] := List.eq_nil_of_length_eq_zero (by omega)
      subst hx
      simp at hz
theorem RowR.rows {B : Nat} {w : World} {a : Option Addr} {n c : Nat} {xss : List (List Int)} (h : RowR B w (.slice a n c) xss) : RowsAt w a xss := fun i hi => by
  obtain ⟨vs, hown, hin⟩ := h
  obtain ⟨u, hu, hr, _⟩ := hin i hi
  obtain ⟨a1, c1, e1, _, _⟩ := hr.slice
  obtain ⟨h1, ⟨_, h0⟩ | ⟨g, cap, cur, e, hB, hg, _⟩⟩ := id hown
  · omega
  · cases e
    refine ⟨g, 0, u, rfl, ?_, ⟨a1, c1, e1⟩, hr.src⟩
    rw [Nat.zero_add]
    have := World.ownsRow.cells hown (g := g) rfl i u hu
    unfold Addr.add at this
    split at this
    · rename_i h; subst h; exact this
    · simpa using this
/-- the length of the first ones, put together -/
def flatLen (xss : List (List Int)) (k : Nat) : Nat := ((xss.take k).flatten).length
theorem flatLen_succ {xss : List (List Int)} {k : Nat} (h : k < xss.length) : flatLen xss (k + 1) = flatLen xss k + xss[k].length := by
  unfold flatLen
  rw [List.take_succ_eq_append_getElem h, List.flatten_append, List.length_append, List.flatten_cons, List.flatten_nil, List.append_nil]
theorem flatLen_le (xss : List (List Int)) (k : Nat) : flatLen xss k ≤ xss.flatten.length := by
  unfold flatLen
  have e : xss.flatten = (xss.take k).flatten ++ (xss.drop k).flatten := by rw [← List.flatten_append, List.take_append_drop]
  rw [e, List.length_append]
  omega
set_option maxHeartbeats 4000000 in
theorem concat_any (w : World) (a : Option Addr) (c n N : Nat) (xss : List (List Int)) (hn : xss.length = n) (hnm : n ≤ 1048576) (hN : xss.flatten.length = N) (hm : N ≤ 1048576) (h : RowsAt w a xss) :
    Calls Try.prog 38 #[.slice a n c] w (RetI w.heap.size w xss.flatten) := by
  have HR := Lib.hid h; have HN := Lib.hid hn; have HL := Lib.hid hN
  obtain ⟨i0, hi, hz0, hz1, hz2⟩ := info_parts Try.info2
  have Hi := Lib.hid hi; have Hz0 := Lib.hid hz0; have Hz1 := Lib.hid hz1; have Hz2 := Lib.hid hz2; clear hi hz0 hz1 hz2
  have hgr := fun W => growI_any W N (by omega)
  have HG := Lib.hid hgr
  clear hgr h hn hN
  go_enter Try.func38, Try.ntmps38
  go_wp2_with fail
  go_loop [3, 11] (fun t i => ∃ k l : Nat, k ≤ n ∧ l ≤ N ∧ i = .int .i64 k ∧ t = .int .i64 l ∧ Hid (flatLen xss k = l)) (fun _ i => n - (intOf i).toNat)
  case atStart => exact ⟨0, 0, by omega, by omega, rfl, rfl, Lib.hid (by simp [flatLen])⟩
  case round =>
    obtain ⟨k, l, hk, hl, rfl, rfl, hfl⟩ := hrel
    by_cases hlt : k < n
    · obtain ⟨b, off, u, rfl, hc, ⟨a1, c1, rfl⟩, -⟩ := HR.out k (by rw [HN.out]; exact hlt)
      have hs := flatLen_succ (xss := xss) (k := k) (by rw [HN.out]; exact hlt)
      have hle := flatLen_le xss (k + 1)
      rw [HL.out] at hle
      rw [hs, hfl.out] at hle
      rw [hfl.out] at hs
      generalize (xss[k]'(by rw [HN.out]; exact hlt)).length = m at hc hs hle
      have HS := Lib.hid hs
      clear hs hfl
      go_wp2_with fail
      go_round
      case rel => exact ⟨k + 1, l + m, by omega, hle, by go_num, by go_num, HS⟩
      case measure => simp [intOf]; omega
    · obtain rfl : k = n := by omega
      have hl' : l = N := by
        have := hfl.out
        unfold flatLen at this
        rw [List.take_of_length_le (by rw [HN.out]; exact Nat.le_refl _), HL.out] at this
        omega
      subst hl'
      clear hfl
      go_wp2_with fail
      refine (HG.out _).mono ?_
      rintro e w1 ⟨v1, rfl, hrow, hb⟩
      have hbs := hb.size
      have HR1 := Lib.hid hrow; have HB := Lib.hid hb; clear hrow hb
      go_wp2_with fail
      go_loopw [6, 27] (fun v i wr => ∃ q : Nat, q ≤ k ∧ i = .int .i64 q ∧ Below w.heap.size w wr ∧ RowI w.heap.size wr v ((xss.take q).flatten)) (fun _ i _ => k - (intOf i).toNat)
      case atStart => exact ⟨0, by omega, rfl, HB.out, by simpa using HR1.out⟩
      case round =>
        obtain ⟨q, hq, rfl, hbr, hr⟩ := hrel
        by_cases hlt : q < k
        · have hqx : q < xss.length := by rw [HN.out]; exact hlt
          obtain ⟨b, off, u, rfl, hc, ⟨a1, c1, rfl⟩, hsr⟩ := (HR.out.below hbr) q hqx
          have e0 := flatLen_succ hqx
          have e1 := flatLen_le xss (q + 1)
          rw [HL.out, e0] at e1
          have hap : ((xss.take (q + 1)).flatten) = (xss.take q).flatten ++ xss[q] := by rw [List.take_succ_eq_append_getElem hqx, List.flatten_append, List.flatten_cons, List.flatten_nil, List.append_nil]
          have hs2 := hbr.size
          have Hr := Lib.hid hr; have Hb := Lib.hid hbr; have HAP := Lib.hid hap; have HSR := Lib.hid hsr; have HE1 := Lib.hid e1
          clear hr hbr hap hsr e0 e1
          go_wp2_with (at_builtin; (refine wpList_append_src _ rfl _ _ 22 rfl w.heap.size 2 i0 _ 1 8 Try.underlying22 Hi.out Hz0.out Hz1.out Hz2.out rfl (by decide) _ (flatLen xss q) _ rfl (by have := Hr.out; unfold RowI at this; exact this) _ xss[q].length _ rfl HSR.out (by simp) (by intro z hz; obtain ⟨p, _, rfl⟩ := List.mem_map.1 hz; rfl) (by have := HE1.out; unfold maxLen; omega) (by have := HE1.out; omega) hs2 ?_); intro v' w' hown hg _)
          go_roundw
          case rel =>
            refine ⟨q + 1, by omega, by go_num, Hb.out.grown hg hs2 (fun j hj => (Hr.out.lt j hj).1), ?_⟩
            rw [HAP.out]
            unfold RowI
            rw [List.map_append, List.length_append]
            exact hown
          case measure => simp [intOf]; omega
        · obtain rfl : q = k := by omega
          have hfin : (xss.take q).flatten = xss.flatten := by rw [List.take_of_length_le (by rw [HN.out]; exact Nat.le_refl _)]
          rw [hfin] at hr
          have Hr := Lib.hid hr; have Hb := Lib.hid hbr; clear hr hbr hfin
          go_wp2_with fail
          go_ret
          exact ⟨_, rfl, Hr.out, Hb.out⟩
end Go.Proofs.Ytmjkncmpanhgjaa
