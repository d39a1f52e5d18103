import Derived.Test.YtokghjnkfabgiaaGreatDoorTD26
import Derived.Test.YtokghjnkfabgiaaGreatDoorTD7
import Derived.Test.YtokghjnkfabgiaaGreatDoorTD5
set_option linter.unusedVariables false
set_option linter.unusedSimpArgs false
set_option maxRecDepth 100000
-- DROPS
namespace Go.Proofs.YtokghjnkfabgiaaGreatDoor
open Go.RowKit

theorem ArrBox.not (w : World) {g : Nat} {cs : Array Value} (h : w.heap[g]? = some (.cells cs 44 (0, 0))) : NotTy 2 w g := NotTy.of h (by decide)
theorem RetArr.put {B R : Nat} {w : World} {v u : Value} {r : ArrE} {cs : Array Value} (hv : RowI B w v r.1.1) (hu : RowI B w u r.1.2) (hap : Apart v u) (hR : w.heap[R]? = some (.cells cs 44 (0, 0))) :
  RetArr B r (.returned (.tuple #[.agg #[v, u], .int .i64 r.2])) ((w.setCell ⟨R, 0, none⟩ v).setCell ⟨R, 1, none⟩ u) := by
 have h1 : KeepTy 2 w (w.setCell ⟨R, 0, none⟩ v) := KeepTy.setCell (p := ⟨R, 0, none⟩) (NotTy.of hR (by decide)) _
 have hR1 : (w.setCell ⟨R, 0, none⟩ v).heap[R]? = some (.cells (cs.setIfInBounds 0 v) 44 (0, 0)) := heap_setCell_same w R 0 _ _ _ hR
 have h2 : KeepTy 2 (w.setCell ⟨R, 0, none⟩ v) ((w.setCell ⟨R, 0, none⟩ v).setCell ⟨R, 1, none⟩ u) := KeepTy.setCell (p := ⟨R, 1, none⟩) (NotTy.of hR1 (by decide)) _
 exact ⟨v, u, rfl, own_keep hv (h1.trans h2), own_keep hu (h1.trans h2), hap⟩
theorem RetArr.no (B : Nat) (w : World) (x : Int) : RetArr B (noA x) (.returned (.tuple #[.agg #[.slice none 0 0, .slice none 0 0], .int .i64 x])) w := ⟨_, _, rfl, RowI.nil _ _, RowI.nil _ _, .inl rfl⟩
theorem put_below {B R : Nat} {w w' : World} (h : Below B w w') (hR : B ≤ R) (v u : Value) : Below B w ((w'.setCell ⟨R, 0, none⟩ v).setCell ⟨R, 1, none⟩ u) :=
 (h.setCell (p := ⟨R, 0, none⟩) hR _).setCell (p := ⟨R, 1, none⟩) hR _
theorem pfault_any (w : World) (x : Int) : Calls Tryz.prog 126 #[.int .i64 x] w fun e w' => RetArr w.heap.size (noA x) e w' ∧ Below w.heap.size w w' := by
 go_enter Tryz.func126, Tryz.ntmps126
 go_wp2_with fail
 refine bodyPost_ret (v := .tuple #[.agg #[.slice none 0 0, .slice none 0 0], .int .i64 x]) (by simp [results, Tryz.results126, go_sem]) rfl ⟨RetArr.no _ _ _, (Below.refl _ _).alloc (Nat.le_refl _) _⟩
set_option maxHeartbeats 1000000 in
theorem good_any (w : World) (B : Nat) (hB : B ≤ w.heap.size) (a : Option Addr) (n c : Nat) (s d : List Int) (v : Value) (hn : n = s.length) (hs : s.length ≤ 17592186044416) (h : IntsAt .i64 w a s) (hv : RowI B w v d) :
  Calls Tryz.prog 128 #[.slice a n c, v] w fun e w' => RetArr B (okA s d) e w' ∧ Below w.heap.size w w' := by
 subst hn
 have hq := fun o => clone_n (w.alloc o) a s.length c s rfl hs (h.below ((Below.refl _ w).alloc (Nat.le_refl _) o) (Nat.le_refl _))
 have HQ := Lib.hid hq; have HV := Lib.hid hv
 obtain ⟨a1, c1, rfl, -, -⟩ := hv.slice
 clear hq h
 go_enter Tryz.func128, Tryz.ntmps128
 go_wp2_with fail
 refine (HQ.out _).mono ?_
 rintro e w1 ⟨⟨u, rfl, hu⟩, hb1⟩
 have hR : w1.heap[w.heap.size]? = some (.cells #[.slice none 0 0, .slice none 0 0] 44 (0, 0)) := block_below (World.alloc_heap_new _ _) hb1
 have hv1 : RowI B w1 (.slice a1 d.length c1) d := (HV.out.below ((Below.refl _ w).alloc (Nat.le_refl _) _)).below hb1
 have hbb : Below w.heap.size w w1 := ((Below.refl _ w).alloc (Nat.le_refl _) _).trans (hb1.mono (by simp))
 have hu1 : RowI B w1 u s := own_mono hu (by simp; omega)
 have hap : Apart u (.slice a1 d.length c1) := (Apart.of_rows (HV.out.below ((Below.refl _ w).alloc (Nat.le_refl _) _)) hu).symm
 obtain ⟨a2, c2, rfl, -, -⟩ := hu.slice
 have HR := Lib.hid hR; have HV1 := Lib.hid hv1; have HU := Lib.hid hu1; have HAP := Lib.hid hap; have HBB := Lib.hid hbb
 have hlt := World.block_lt_of_cell? w1 _ (cell_of_row w1 w.heap.size 0 _ _ _ hR)
 have y0 := cell_of_row w1 w.heap.size 0 _ _ _ hR; have y1 := cell_of_row w1 w.heap.size 1 _ _ _ hR
 have f0 := frozen_of_row w1 w.heap.size 0 _ _ hR; have f1 := frozen_of_row w1 w.heap.size 1 _ _ hR
 clear hR hv1 hu hu1 hap hbb hb1 HQ HV hv
 go_wp2_with fail
 refine bodyPost_ret (v := .tuple #[.agg #[.slice a2 s.length c2, .slice a1 d.length c1], .int .i64 0]) (by simp [results, Tryz.results128, go_sem, y0, y1]) rfl ⟨RetArr.put (r := okA s d) HU.out HV1.out HAP.out HR.out, put_below HBB.out (Nat.le_refl _) _ _⟩
structure PairAt (w : World) (P : Nat) (F : Nat) (f wrong : Int) : Prop where
 p : w.heap[P]? = some (.cells #[.func (.func 161) #[] #[.pointer (some ⟨F, 0, none⟩)], .int .i64 wrong] 248 (0, 0))
 f : w.heap[F]? = some (.cells #[.int .u8 f] 119 (0, 0))
theorem PairAt.below {w w' : World} {P F : Nat} {f wrong : Int} (h : PairAt w P F f wrong) (hb : Below w.heap.size w w') : PairAt w' P F f wrong := ⟨block_below h.p hb, block_below h.f hb⟩
theorem PairAt.ne {w : World} {P F : Nat} {f wrong : Int} (h : PairAt w P F f wrong) : F ≠ P := by
 intro e; subst e
 have := h.p.symm.trans h.f
 simp at this
theorem PairAt.lt {w : World} {P F : Nat} {f wrong : Int} (h : PairAt w P F f wrong) : P < w.heap.size := (Array.getElem?_eq_some_iff.1 h.p).1
theorem PairAt.not {w : World} {P F : Nat} {f wrong : Int} (h : PairAt w P F f wrong) {t : TypeId} (ht : 248 ≠ t) : NotTy t w P := NotTy.of h.p ht
theorem of_any (w : World) (f : Int) : Calls Tryz.prog 135 #[.int .u8 f] w fun e w' => e = .returned (.pointer (some ⟨w.heap.size + 1, 0, none⟩)) ∧ PairAt w' (w.heap.size + 1) w.heap.size f 0 ∧ Below w.heap.size w w' := by
 go_enter Tryz.func135, Tryz.ntmps135
 go_wp2_with fail
 go_ret
 refine ⟨by simp, ⟨?_, ?_⟩, ?_⟩
 ·have := World.alloc_heap_new (w.alloc (.cells #[.int .u8 f] 119)) (.cells #[.func (.func 161) #[] #[.pointer (some ⟨w.heap.size, 0, none⟩)], .int .i64 0] 248)
  simpa using this
 ·exact block_alloc (World.alloc_heap_new _ _) _
 ·exact ((Below.refl _ _).alloc (Nat.le_refl _) _).alloc (by simp) _
def callV (f a b : Int) : Int := if refusesB f a b then 0 else dyv f a b
def callE (f a b : Int) : Int := if refusesB f a b then 11 else 0
theorem dyadF_call {f a b : Int} (h : takes f true = true) : dyadF f a b = (callV f a b, callE f a b) := by
 unfold dyadF callV callE
 rw [if_pos h]
 cases refusesB f a b <;> rfl
theorem of1_any (w : World) (f a b : Int) (F : Nat) (hf : w.cell? ⟨F, 0, none⟩ = some (.int .u8 f)) (ht : takes f true = true) (ha : In64 a) (hb : In64 b) :
  Calls Tryz.prog 161 #[.int .i64 a, .int .i64 b, .pointer (some ⟨F, 0, none⟩)] w fun e w' => e = .returned (.tuple #[.int .i64 (callV f a b), .int .i64 (callE f a b)]) ∧ ∃ n, w' = w.drewN n := by
 have hq := dyad_at w f a b _ _ ha hb (dyadF_call ht)
 have HQ := Lib.hid hq
 clear hq ha hb
 go_enter Tryz.func161, Tryz.ntmps161
 go_wp2_with fail
 refine HQ.out.mono ?_
 rintro e w1 ⟨rfl, n, rfl⟩
 go_wp2_with fail
 go_ret2
 exact ⟨rfl, n, rfl⟩
def nextE (f a b wrong : Int) : Int := if refusesB f a b then 11 else wrong
set_option maxHeartbeats 1000000 in
theorem call_any (w : World) (P F : Nat) (f wrong a b : Int) (h : PairAt w P F f wrong) (ht : takes f true = true) (ha : In64 a) (hb : In64 b) :
  Calls Tryz.prog 138 #[.pointer (some ⟨P, 0, none⟩), .int .i64 a, .int .i64 b] w fun e w' => e = .returned (.int .i64 (callV f a b)) ∧ PairAt w' P F f (nextE f a b wrong) ∧ KB (fun g => g = P) w w' := by
 have hq := fun W => of1_any W f a b F
 have x0 := cell_of_row w P 0 _ _ _ h.p; have x1 := cell_of_row w P 1 _ _ _ h.p; have y1 := frozen_of_row w P 1 _ _ h.p
 have z0 := cell_of_row w F 0 _ _ _ h.f
 have HQ := Lib.hid (of1_any w f a b F z0 ht ha hb); have H := Lib.hid h
 unfold callE at HQ
 clear hq ha hb ht h z0
 go_enter Tryz.func138, Tryz.ntmps138
 go_wp2_with fail
 refine HQ.out.mono ?_
 rintro e w1 ⟨rfl, n, rfl⟩
 cases hr : refusesB f a b with
 | true =>
  go_wp2_with fail
  go_ret
  refine ⟨rfl, ⟨?_, ?_⟩, ((KB.refl (fun g => g = P) w).drewN n).setCell (p := ⟨P, 1, none⟩) (fun _ => rfl) _⟩
  ·have : (w.drewN n).heap[P]? = _ := H.out.p
   rw [heap_setCell_same _ P 1 _ _ _ this]
   unfold nextE
   rw [hr]
   rfl
  ·exact (Below.heap_setCell _ _ _ _ H.out.ne).trans H.out.f
 | false =>
  go_wp2_with fail
  go_ret
  refine ⟨rfl, ⟨?_, H.out.f⟩, (KB.refl _ _).drewN n⟩
  unfold nextE
  rw [hr]
  exact H.out.p
def doneA (wrong : Int) (s d : List Int) : ArrE := if wrong = 0 then okA s d else noA wrong
set_option maxHeartbeats 2000000 in
theorem done_any (w : World) (B P F : Nat) (f wrong : Int) (h : PairAt w P F f wrong) (s d : List Int) (v u : Value) (hB : B ≤ w.heap.size) (hv : RowI B w v s) (hu : RowI B w u d) (hap : Apart v u) :
  Calls Tryz.prog 137 #[.pointer (some ⟨P, 0, none⟩), v, u] w fun e w' => RetArr B (doneA wrong s d) e w' ∧ Below w.heap.size w w' := by
 have x1 := cell_of_row w P 1 _ _ _ h.p
 have hPl := h.lt
 have HV := Lib.hid hv; have HU := Lib.hid hu; have HAP := Lib.hid hap
 obtain ⟨a1, c1, rfl, -, -⟩ := hv.slice
 obtain ⟨a2, c2, rfl, -, -⟩ := hu.slice
 by_cases hw : wrong = 0
 ·subst hw
  clear h hv hu hap
  go_enter Tryz.func137, Tryz.ntmps137
  go_wp2_with fail
  refine bodyPost_ret (v := .tuple #[.agg #[.slice a1 s.length c1, .slice a2 d.length c2], .int .i64 0]) (by simp [results, Tryz.results137, go_sem]) rfl ⟨?_, (Below.refl _ _).alloc (Nat.le_refl _) _⟩
  exact ⟨_, _, rfl, HV.out.below ((Below.refl _ _).alloc (Nat.le_refl _) _), HU.out.below ((Below.refl _ _).alloc (Nat.le_refl _) _), HAP.out⟩
 ·have hd : doneA wrong s d = noA wrong := if_neg hw
  have hw' : (wrong != 0) = true := by simpa using hw
  rw [hd]
  clear h hv hu hap hd hw HV HU HAP
  go_enter Tryz.func137, Tryz.ntmps137
  go_wp2_with fail
  go_region
  go_wp2_with fail
  refine bodyPost_ret (v := .tuple #[.agg #[.slice none 0 0, .slice none 0 0], .int .i64 wrong]) (by simp [results, Tryz.results137, go_sem]) rfl ⟨RetArr.no _ _ _, ?_⟩
  exact ((Below.refl _ _).alloc (Nat.le_refl _) _).drew
end Go.Proofs.YtokghjnkfabgiaaGreatDoor
