import Derived.Test.YtmjkncmpanhgjaaPA16
import Derived.Test.YtmjkncmpanhgjaaPA13
import Derived.Test.YtmjkncmpanhgjaaPA11
namespace Go.Proofs.Ytmjkncmpanhgjaa
set_option maxRecDepth 100000
open Go.RowKit
set_option linter.unusedVariables false
set_option linter.unusedSimpArgs false

/-! prim.Dyad: functions of two numbers. -/
def outP (f : Int) (pq : List (Int × Int)) : List Int := pq.map fun p => callV f p.1 p.2
def wrongP (f : Int) (pq : List (Int × Int)) : Int := if pq.any (fun p => refusesB f p.1 p.2) then 11 else 0
theorem outP_snoc (f : Int) (pq : List (Int × Int)) (a b : Int) : outP f (pq ++ [(a, b)]) = outP f pq ++ [callV f a b] := by simp [outP]
theorem wrongP_snoc (f : Int) (pq : List (Int × Int)) (a b : Int) : wrongP f (pq ++ [(a, b)]) = nextE f a b (wrongP f pq) := by
  unfold wrongP nextE
  rw [List.any_append]
  simp only [List.any_cons, List.any_nil, Bool.or_false]
  cases refusesB f a b <;> cases pq.any (fun p => refusesB f p.1 p.2) <;> rfl
theorem outP_len (f : Int) (pq : List (Int × Int)) : (outP f pq).length = pq.length := by simp [outP]
theorem pairsA_eq (f : Int) (xs ys s : List Int) : pairsA f xs ys s = doneA (wrongP f (xs.zip ys)) s (outP f (xs.zip ys)) := by
  unfold pairsA doneA wrongP
  cases h : (xs.zip ys).any (fun p => refusesB f p.1 p.2) with
  | true => rfl
  | false =>
    simp only [Bool.false_eq_true, if_false, if_true]
    congr 1
    unfold outP
    rw [List.zip, List.map_zipWith] at *
    apply List.ext_getElem
    · simp
    · intro i h1 h2
      simp only [List.getElem_zipWith]
      unfold callV
      rw [List.any_eq_false] at h
      have := h (xs[i]'(by simp at h1; omega), ys[i]'(by simp at h1; omega)) (by
        rw [List.mem_iff_getElem]
        exact ⟨i, by simpa using h1, by simp⟩)
      simp only [] at this
      rw [if_neg this]
theorem zip_step {xs ys : List Int} (hl : xs.length = ys.length) {k : Nat} (hk : k < xs.length) : (xs.zip ys).take (k + 1) = (xs.zip ys).take k ++ [(xs.getD k 0, ys.getD k 0)] := by
  rw [List.take_succ_eq_append_getElem (by simp; omega)]
  congr 2
  rw [List.getElem_zip, List.getD_eq_getElem?_getD, List.getD_eq_getElem?_getD, List.getElem?_eq_getElem hk, List.getElem?_eq_getElem (by omega)]
  rfl
theorem Duo.call {w W W' : World} {v u v2 u2 : Value} {P F : Nat} {f wr : Int} (h : Duo w W v u v2 u2) (hp : PairAt W P F f wr) (hP : w.heap.size ≤ P) (hk : KB (fun g => g = P) W W') : Duo w W' v u v2 u2 :=
  h.kt (h.b.trans (hk.below h.b.size (fun g e => by rw [e]; exact hP))) (KeepTy.kb hk (fun g e => by rw [e]; exact hp.not (by decide)))
theorem RowI.call {B : Nat} {W W' : World} {x : Value} {xs : List Int} {P F : Nat} {f wr : Int} (h : RowI B W x xs) (hp : PairAt W P F f wr) (hk : KB (fun g => g = P) W W') : RowI B W' x xs :=
  own_keep h (KeepTy.kb hk (fun g e => by rw [e]; exact hp.not (by decide)))
theorem PairAt.app {B P F : Nat} {W W1 W' : World} {x : Value} {xs : List Int} {f wr : Int} (h : PairAt W P F f wr) (hb : Below W.heap.size W W1) (hr : RowI B W1 x xs) (hg : W1.grownBy W' x.ownBlock) : PairAt W' P F f wr := by
  have h1 := h.below hb
  have hn : ∀ {t : TypeId}, 2 ≠ t → KeepTy t W1 W' := fun hne => KeepTy.grown hg (fun g e => by
    obtain ⟨cur, hc⟩ := own_typed hr e
    exact NotTy.of hc hne)
  exact ⟨hn (by decide) _ _ h1.p, hn (by decide) _ _ h1.f⟩
theorem callV_in (f a b : Int) (ha : In64 a) (hb : In64 b) : True := trivial
set_option maxHeartbeats 8000000 in
theorem pd_eq (w : World) (f : Int) (v u v2 u2 : Value) (s d t e : List Int) (hs : SlA w v s) (hd : SlA w u d) (ht : SlA w v2 t) (he : SlA w u2 e) (hr1 : right s d = true) (hr2 : right t e = true) (htk : takes f true = true) (hst : s = t) :
    Calls Try.prog 17 #[.int .u8 f, .agg #[v, u], .agg #[v2, u2]] w fun e' w' => RetArr w.heap.size (pairsA f d e s) e' w' ∧ Below w.heap.size w w' := by
  have hf := (takes_in htk).2
  have g0 : (f == 37) = false := by rw [beq_eq_false_iff_ne]; omega
  have g1 : (f == 38) = false := by rw [beq_eq_false_iff_ne]; omega
  have g2 : (f == 39) = false := by rw [beq_eq_false_iff_ne]; omega
  have g3 : (f == 40) = false := by rw [beq_eq_false_iff_ne]; omega
  have hlen : d.length = e.length := by
    have h1 := right_size hr1
    have h2 := right_size hr2
    rw [hst, h2] at h1
    injection h1 with h1
    omega
  have hd6 := (right_good hr1).2.le
  have hs4 := (right_good hr1).2.len
  have HST := Lib.hid hst
  have HR1 := Lib.hid hr1; have HR2 := Lib.hid hr2; have HTK := Lib.hid htk
  have HT := Lib.hid (fun W => takes_at W f true true htk)
  have HLE := Lib.hid hlen
  rw [pairsA_eq]
  clear hr1 hr2 hf htk hst hlen
  have HS0 := Lib.hid hs.src; have HS1 := Lib.hid hd.src; have HS2 := Lib.hid ht.src; have HS3 := Lib.hid he.src
  obtain ⟨a0, c0, rfl, h01, h02, -, h04, -⟩ := hs
  obtain ⟨a1, c1, rfl, h11, h12, -, h14, hin⟩ := hd
  obtain ⟨a2, c2, rfl, h21, h22, -, h24, -⟩ := ht
  obtain ⟨a3, c3, rfl, h31, h32, -, h34, hie⟩ := he
  have h02' : c0 ≤ 9223372036854775807 := h02
  have h12' : c1 ≤ 9223372036854775807 := h12
  have h22' : c2 ≤ 9223372036854775807 := h22
  have h32' : c3 ≤ 9223372036854775807 := h32
  have HM : Hid (s.length ≤ maxLen) := Lib.hid (Nat.le_trans h01 h02)
  have HM2 : Hid (t.length ≤ maxLen) := Lib.hid (Nat.le_trans h21 h22)
  have H0 := Lib.hid h04; have H1 := Lib.hid h14; have HIN := Lib.hid hin
  have H2 := Lib.hid h24; have H3 := Lib.hid h34; have HIE := Lib.hid hie
  have HO := Lib.hid (Duo.mk0 w (.slice a0 s.length c0) (.slice a1 d.length c1) (.slice a2 t.length c2) (.slice a3 e.length c3))
  obtain ⟨r, HRR⟩ : ∃ r, Hid ((doneA (wrongP f (d.zip e)) s (outP f (d.zip e))) = r) := ⟨_, Lib.hid rfl⟩
  rw [HRR.out]
  clear h04 h14 h24 h34 h02 h12 h22 h32 hin hie
  go_enter Try.func17, Try.ntmps17
  go_upto_region 1 with fail
  refine gen_worldA (fun W => Duo w W (.slice a0 s.length c0) (.slice a1 d.length c1) (.slice a2 t.length c2) (.slice a3 e.length c3)) HO.out ?_
  rintro W1 hO
  have HO2 := Lib.hid hO
  have x0 := hO.c0; have x1 := hO.c1; have x2 := hO.c2; have x3 := hO.c3
  clear HO hO
  have hq := right_any W1 a0 a1 c0 c1 s d HM.out (H0.out.below HO2.out.b (Nat.le_refl _))
  rw [HR1.out] at hq
  have HQ := Lib.hid hq
  clear hq
  go_wp2_with fail
  refine HQ.out.mono ?_
  rintro e' W2 ⟨rfl, hb2⟩
  have HO3 := Lib.hid (HO2.out.next hb2)
  have hq := right_any W2 a2 a3 c2 c3 t e HM2.out (H2.out.below HO3.out.b (Nat.le_refl _))
  rw [HR2.out] at hq
  clear HQ x0 x1 x2 x3
  have HQ := Lib.hid hq
  have x2 := HO3.out.c2; have x3 := HO3.out.c3
  clear hq hb2 HO2
  go_wp2_with fail
  refine HQ.out.mono ?_
  rintro e' W3 ⟨rfl, hb3⟩
  have HO4 := Lib.hid (HO3.out.next hb3)
  clear HQ x2 x3 hb3 HO3
  have x0 := HO4.out.c0; have x1 := HO4.out.c1; have x2 := HO4.out.c2; have x3 := HO4.out.c3
  have HQ0 := Lib.hid (HT.out W3)
  go_wp2_with fail
  refine HQ0.out.mono ?_
  rintro e' W4 ⟨rfl, rfl⟩
  have HQ1 := Lib.hid (of_any W3 f)
  clear HQ0 HT g0 g1 g2 g3 x0 x1 x2 x3
  go_wp2_with fail
  refine HQ1.out.mono ?_
  rintro e' W5 ⟨rfl, hp5, hb5⟩
  have HO5 := Lib.hid (HO4.out.next hb5)
  have hP : w.heap.size ≤ W3.heap.size + 1 := by have := HO4.out.b.size; omega
  obtain ⟨P, hPe⟩ : ∃ P, W3.heap.size + 1 = P := ⟨_, rfl⟩
  obtain ⟨F, hFe⟩ : ∃ F, W3.heap.size = F := ⟨_, rfl⟩
  rw [hPe] at hp5 hP ⊢
  rw [hFe] at hp5
  have HPA := Lib.hid hp5; have hPw := Lib.hid hP
  clear HQ1 hp5 hb5 HO4 hPe hFe hP
  have x0 := HO5.out.c0; have x1 := HO5.out.c1; have x2 := HO5.out.c2; have x3 := HO5.out.c3
  have hq := equal_any W5 a0 a2 c0 c2 s t HM.out HM2.out (H0.out.below HO5.out.b (Nat.le_refl _)) (H2.out.below HO5.out.b (Nat.le_refl _))
  have HQ := Lib.hid hq
  clear hq
  go_wp2_with fail
  refine HQ.out.mono ?_
  rintro e' W6 ⟨rfl, n6, rfl⟩
  have HO6 := Lib.hid (HO5.out.next (Below.drewN W5 n6)); have HPB := Lib.hid (HPA.out.below (Below.drewN W5 n6))
  clear HQ HO5 HPA x0 x1 x2 x3
  obtain ⟨W7, hW7⟩ : ∃ W, W5.drewN n6 = W := ⟨_, rfl⟩
  rw [hW7] at HO6 HPB ⊢
  clear hW7
  have hints : ints s t = true := by unfold ints; exact decide_eq_true HST.out
  rw [hints]
  clear hints
  have x1 := HO6.out.c1
  go_wp2_with fail
  clear x1
  go_loopw [9, 71] (fun o i wr => ∃ k : Nat, k ≤ d.length ∧ i = .int .i64 k ∧ Duo w wr (.slice a0 s.length c0) (.slice a1 d.length c1) (.slice a2 t.length c2) (.slice a3 e.length c3) ∧
    PairAt wr P F f (wrongP f ((d.zip e).take k)) ∧ RowI w.heap.size wr o (outP f ((d.zip e).take k))) (fun _ i _ => d.length - (intOf i).toNat)
  case atStart => exact ⟨0, by omega, rfl, HO6.out, HPB.out, RowI.nil _ _⟩
  case round =>
    obtain ⟨k, hk, rfl, hO, hpa, hrw⟩ := hrel
    clear HO6 HPB
    have x0 := hO.c0; have x1 := hO.c1; have x3 := hO.c3
    by_cases hlt : k < d.length
    · have hz := zip_step HLE.out hlt
      obtain ⟨b1, o1, rfl, hc1⟩ := H1.out.atD hlt
      obtain ⟨b3, o3, rfl, hc3⟩ := H3.out.atD (k := k) (by rw [← HLE.out]; exact hlt)
      have HC1 := Lib.hid hc1; have HC3 := Lib.hid hc3
      have hc1 := keepCell hO.b hc1; have hc3 := keepCell hO.b hc3
      have hx := In64.getD HIN.out hlt; have hy := In64.getD HIE.out (k := k) (by rw [← HLE.out]; exact hlt)
      have hkd : (k : Int) < (d.length : Int) := by omega
      have hke : (k : Int) < (e.length : Int) := by have := HLE.out; omega
      have hk0 : (0 : Int) ≤ (k : Int) := by omega
      generalize d.getD k 0 = x at hz hc1 hx HC1
      generalize e.getD k 0 = y at hz hc3 hy HC3
      have hol : (outP f ((d.zip e).take k)).length ≤ 65536 := by rw [outP_len, List.length_take]; omega
      have hO1 : outP f ((d.zip e).take (k + 1)) = outP f ((d.zip e).take k) ++ [callV f x y] := by rw [hz, outP_snoc]
      have hW1 : wrongP f ((d.zip e).take (k + 1)) = nextE f x y (wrongP f ((d.zip e).take k)) := by rw [hz, wrongP_snoc]
      have HOL := Lib.hid hol; have HO1 := Lib.hid hO1; have HW1 := Lib.hid hW1
      have hcl := fun W wrong hp => call_any W P F f wrong x y hp HTK.out hx hy
      have HC := Lib.hid hcl; have HOR := Lib.hid hO; have HPA := Lib.hid hpa; have HRW := Lib.hid hrw
      clear hz hol hO1 hW1 hcl hO hpa hrw hx hy x0
      generalize outP f ((d.zip e).take k) = ou at HOL HO1 HRW ⊢
      generalize wrongP f ((d.zip e).take k) = wg at HW1 HPA
      go_upto_region 20 with fail
      refine wp_region_Z (S := fun W' => (W'.cell? ⟨w.heap.size, 1, none⟩ = some (.slice (some ⟨b1, o1, none⟩) d.length c1) ∧ W'.cell? ⟨w.heap.size + 1, 1, none⟩ = some (.slice (some ⟨b3, o3, none⟩) e.length c3)) ∧ W'.cell? ⟨b1, o1 + k, none⟩ = some (.int .i64 x) ∧ W'.cell? ⟨b3, o3 + k, none⟩ = some (.int .i64 y)) (z := 15) (by kernel_rfl) ?_
      have hSS : (fun W' : World => (W'.cell? ⟨w.heap.size, 1, none⟩ = some (.slice (some ⟨b1, o1, none⟩) d.length c1) ∧ W'.cell? ⟨w.heap.size + 1, 1, none⟩ = some (.slice (some ⟨b3, o3, none⟩) e.length c3)) ∧ W'.cell? ⟨b1, o1 + k, none⟩ = some (.int .i64 x) ∧ W'.cell? ⟨b3, o3 + k, none⟩ = some (.int .i64 y)) wr.drew := ⟨⟨x1, x3⟩, hc1, hc3⟩
      clear x1 x3 hc1 hc3
      refine wpAnyZ_take (i := 0) (v := ?_) rfl (by kernel_rfl) (by kernel_rfl) (by kernel_rfl) (fun _ _ _ h => h) (by kernel_rfl) (Or.inl ⟨by rfl, ?_⟩) (by assumption) ?_
      rotate_left
      · intro w' hSw
        try dsimp only at hSw
        try obtain ⟨hSw, hSw2⟩ := hSw
        go_simp
        try with_reducible rfl
      show wpAnyZ _ _ _ _ _ _ _ _ (Act.put _ (some 74) _) _
      simp only [Act.put, List.setIfInBounds_toArray, List.set_cons_zero, List.set_cons_succ]
      refine wpAnyZ_take (i := 1) (v := ?_) rfl (by kernel_rfl) (by kernel_rfl) (by kernel_rfl) (fun _ _ _ h => h) (by kernel_rfl) (Or.inl ⟨by rfl, ?_⟩) (by assumption) ?_
      rotate_left
      · intro w' hSw
        try dsimp only at hSw
        try obtain ⟨hSw, hSw2⟩ := hSw
        go_simp
        try with_reducible rfl
      show wpAnyZ _ _ _ _ _ _ _ _ (Act.put _ (some 75) _) _
      simp only [Act.put, List.setIfInBounds_toArray, List.set_cons_zero, List.set_cons_succ]
      refine wpAnyZ_take (i := 2) (v := ?_) rfl (by kernel_rfl) (by kernel_rfl) (by kernel_rfl) (fun _ _ _ h => h) (by kernel_rfl) (Or.inl ⟨by rfl, ?_⟩) (by assumption) ?_
      rotate_left
      · intro w' hSw
        try dsimp only at hSw
        try obtain ⟨hSw, hSw2⟩ := hSw
        go_simp
        try with_reducible rfl
      show wpAnyZ _ _ _ _ _ _ _ _ (Act.put _ (some 76) _) _
      simp only [Act.put, List.setIfInBounds_toArray, List.set_cons_zero, List.set_cons_succ]
      refine wpAnyZ_take (i := 3) (v := ?_) rfl (by kernel_rfl) (by kernel_rfl) (by kernel_rfl) (fun _ _ _ h => h) (by kernel_rfl) (Or.inl ⟨by rfl, ?_⟩) (by assumption) ?_
      rotate_left
      · intro w' hSw
        try dsimp only at hSw
        try obtain ⟨hSw, hSw2⟩ := hSw
        go_simp
        try with_reducible rfl
      show wpAnyZ _ _ _ _ _ _ _ _ (Act.put _ (some 77) _) _
      simp only [Act.put, List.setIfInBounds_toArray, List.set_cons_zero, List.set_cons_succ]
      refine wpAnyZ_take (i := 4) (v := ?_) rfl (by kernel_rfl) (by kernel_rfl) (by kernel_rfl) (fun _ _ _ h => h) (by kernel_rfl) (Or.inl ⟨by rfl, ?_⟩) (by assumption) ?_
      rotate_left
      · intro w' hSw
        try dsimp only at hSw
        try obtain ⟨hSw, hSw2⟩ := hSw
        go_simp
        try with_reducible rfl
      show wpAnyZ _ _ _ _ _ _ _ _ (Act.put _ (some 78) _) _
      simp only [Act.put, List.setIfInBounds_toArray, List.set_cons_zero, List.set_cons_succ]
      refine wpAnyZ_take (i := 5) (v := ?_) rfl (by kernel_rfl) (by kernel_rfl) (by kernel_rfl) (fun _ _ _ h => h) (by kernel_rfl) (Or.inl ⟨by rfl, ?_⟩) (by assumption) ?_
      rotate_left
      · intro w' hSw
        try dsimp only at hSw
        try obtain ⟨hSw, hSw2⟩ := hSw
        go_simp
        try with_reducible rfl
      show wpAnyZ _ _ _ _ _ _ _ _ (Act.put _ (some 79) _) _
      simp only [Act.put, List.setIfInBounds_toArray, List.set_cons_zero, List.set_cons_succ]
      refine wpAnyZ_take (i := 6) (v := ?_) rfl (by kernel_rfl) (by kernel_rfl) (by kernel_rfl) (fun _ _ _ h => h) (by kernel_rfl) (Or.inl ⟨by rfl, ?_⟩) (by assumption) ?_
      rotate_left
      · intro w' hSw
        try dsimp only at hSw
        try obtain ⟨hSw, hSw2⟩ := hSw
        go_simp
        try with_reducible rfl
      show wpAnyZ _ _ _ _ _ _ _ _ (Act.put _ (some 80) _) _
      simp only [Act.put, List.setIfInBounds_toArray, List.set_cons_zero, List.set_cons_succ]
      refine wpAnyZ_take (i := 7) (v := ?_) rfl (by kernel_rfl) (by kernel_rfl) (by kernel_rfl) (fun _ _ _ h => h) (by kernel_rfl) (Or.inl ⟨by rfl, ?_⟩) (by assumption) ?_
      rotate_left
      · intro w' hSw
        try dsimp only at hSw
        try obtain ⟨hSw, hSw2⟩ := hSw
        go_simp
        try with_reducible rfl
      show wpAnyZ _ _ _ _ _ _ _ _ (Act.put _ (some 81) _) _
      simp only [Act.put, List.setIfInBounds_toArray, List.set_cons_zero, List.set_cons_succ]
      refine wpAnyZ_take (i := 8) (v := ?_) rfl (by kernel_rfl) (by kernel_rfl) (by kernel_rfl) (fun _ _ _ h => h) (by kernel_rfl) (Or.inl ⟨by rfl, ?_⟩) (by assumption) ?_
      rotate_left
      · intro w' hSw
        try dsimp only at hSw
        try obtain ⟨hSw, hSw2⟩ := hSw
        go_simp
        try with_reducible rfl
      show wpAnyZ _ _ _ _ _ _ _ _ (Act.put _ (some 82) _) _
      simp only [Act.put, List.setIfInBounds_toArray, List.set_cons_zero, List.set_cons_succ]
      refine wpAnyZ_take (i := 9) (v := ?_) rfl (by kernel_rfl) (by kernel_rfl) (by kernel_rfl) (fun _ _ _ h => h) (by kernel_rfl) (Or.inl ⟨by rfl, ?_⟩) (by assumption) ?_
      rotate_left
      · intro w' hSw
        try dsimp only at hSw
        try obtain ⟨hSw, hSw2⟩ := hSw
        go_simp
        try with_reducible rfl
      show wpAnyZ _ _ _ _ _ _ _ _ (Act.put _ (some 83) _) _
      simp only [Act.put, List.setIfInBounds_toArray, List.set_cons_zero, List.set_cons_succ]
      refine wpAnyZ_take (i := 10) (v := ?_) rfl (by kernel_rfl) (by kernel_rfl) (by kernel_rfl) (fun _ _ _ h => h) (by kernel_rfl) (Or.inl ⟨by rfl, ?_⟩) (by assumption) ?_
      rotate_left
      · intro w' hSw
        try dsimp only at hSw
        try obtain ⟨hSw, hSw2⟩ := hSw
        go_simp
        try with_reducible rfl
      show wpAnyZ _ _ _ _ _ _ _ _ (Act.put _ (some 84) _) _
      simp only [Act.put, List.setIfInBounds_toArray, List.set_cons_zero, List.set_cons_succ]
      refine wpAnyZ_take (i := 11) (v := ?_) rfl (by kernel_rfl) (by kernel_rfl) (by kernel_rfl) (fun _ _ _ h => h) (by kernel_rfl) (Or.inl ⟨by rfl, ?_⟩) (by assumption) ?_
      rotate_left
      · intro w' hSw
        try dsimp only at hSw
        try obtain ⟨hSw, hSw2⟩ := hSw
        go_simp
        try with_reducible rfl
      show wpAnyZ _ _ _ _ _ _ _ _ (Act.put _ (some 85) _) _
      simp only [Act.put, List.setIfInBounds_toArray, List.set_cons_zero, List.set_cons_succ]
      clear hSS
      refine wpAnyZ_one (i := 12) (by kernel_rfl) rfl rfl (fun K hK => ?_)
      go_simp
      refine (HC.out wr.drew wg (HPA.out.below (Below.refl _ _).drew)).mono ?_
      rintro e' w5 ⟨rfl, hp5, hk5⟩
      have hpd := HPA.out.below (Below.refl wr.heap.size wr).drew
      have HO5 := Lib.hid ((HOR.out.next (Below.refl wr.heap.size wr).drew).call hpd hPw.out hk5)
      have HV5 := Lib.hid ((HRW.out.below (Below.refl wr.heap.size wr).drew).call hpd hk5)
      have HP5 := Lib.hid hp5
      show K _ w5
      refine hK.out _ _ (.inr ⟨⟨HO5.out.c1, HO5.out.c3⟩, keepCell HO5.out.b HC1.out, keepCell HO5.out.b HC3.out⟩) ?_
      clear hK hp5 hk5 HC HOR HPA HRW hpd
      refine wpAnyZ_one (i := 13) (by kernel_rfl) rfl rfl (fun K hK => ?_)
      go_simp
      have hO6 := HO5.out.next (show Below w5.heap.size w5 (w5.alloc (.cells #[.int .i64 (callV f x y)] 2)) from (Below.refl _ _).alloc (Nat.le_refl _) _)
      refine hK.out _ _ (.inr ⟨⟨hO6.c1, hO6.c3⟩, keepCell hO6.b HC1.out, keepCell hO6.b HC3.out⟩) ?_
      clear hK hO6
      have hba : Below w5.heap.size w5 (w5.alloc (.cells #[.int .i64 (callV f x y)] 2)) := (Below.refl _ _).alloc (Nat.le_refl _) _
      have HBA := Lib.hid hba; have HR6 := Lib.hid (HV5.out.below hba)
      refine wpAnyZ_one (i := 14) (by kernel_rfl) rfl rfl (fun K hK => ?_)
      refine wp_app (.tmp 74) (.tmp 87) rfl w.heap.size _ ou [callV f x y] _ 1 rfl rfl HR6.out rfl (src_one w5 (callV f x y) _ rfl) (by have := HOL.out; omega) (HO5.out.next hba).b.size ?_
      intro v' w9 hv9 hg9 hn9
      have hv9 : RowI w.heap.size w9 v' (ou ++ [callV f x y]) := hv9
      rw [← HO1.out] at hv9
      have HV9 := Lib.hid hv9
      have HO9 := Lib.hid (HO5.out.app HBA.out HR6.out hg9); have HP9 := Lib.hid (HP5.out.app HBA.out HR6.out hg9)
      rw [← HW1.out] at HP9
      refine hK.out _ _ (.inr ⟨⟨HO9.out.c1, HO9.out.c3⟩, keepCell HO9.out.b HC1.out, keepCell HO9.out.b HC3.out⟩) ?_
      clear hK HC1 HC3 hba hv9 hg9 hn9 HBA HR6 HO5 HV5 HP5 HO1 HW1
      refine wpAnyZ_one (i := 15) (by kernel_rfl) rfl rfl (fun K hK => ?_)
      go_simp
      refine hK.out _ _ (.inl (by omega)) ?_
      clear hK
      refine wpAnyZ_done (by kernel_rfl) ?_ _
      go_wp2_with fail
      go_roundw
      case rel => exact ⟨k + 1, by omega, by go_num, HO9.out, HP9.out, HV9.out⟩
      case measure => simp [intOf] <;> omega
    · obtain rfl : k = d.length := by omega
      have hall : (d.zip e).take d.length = d.zip e := List.take_of_length_le (by simp; omega)
      rw [hall] at hpa hrw
      have hcl := clone_any wr a0 c0 s (by omega) (H0.out.below hO.b (Nat.le_refl _))
      have HC := Lib.hid hcl; have HOR := Lib.hid hO; have HPA := Lib.hid hpa; have HRW := Lib.hid hrw
      obtain ⟨a9, c9, e9, -, -⟩ := hrw.slice
      subst e9
      clear hcl hO hpa hrw hlt hall
      go_wp2_with fail
      refine HC.out.mono ?_
      rintro e' w5 ⟨⟨v5, rfl, hv5⟩, hb5⟩
      have HO5 := Lib.hid (HOR.out.next hb5)
      have hap := (Apart.of_rows HRW.out hv5).symm
      have hq := done_any w5 w.heap.size P F f _ (HPA.out.below hb5) s _ v5 _ HO5.out.b.size (hv5.mono HOR.out.b.size) (HRW.out.below hb5) hap
      rw [HRR.out] at hq
      have HQ := Lib.hid hq; have HR := Lib.hid HO5.out.r; have HB := Lib.hid HO5.out.b
      obtain ⟨a8, c8, rfl, -, -⟩ := hv5.slice
      clear hq hv5 hb5 hap HC HOR HPA HRW
      go_wp2_with fail
      refine (Hid.out HQ).mono ?_
      rintro e w9 ⟨⟨v9, u9, rfl, hv9, hu9, hap9⟩, hb9⟩
      have hR9 := block_below (Hid.out HR) hb9
      have HV9 := Lib.hid hv9; have HU9 := Lib.hid hu9; have HAP9 := Lib.hid hap9; have HR9 := Lib.hid hR9
      have HB9 := Lib.hid (bNext hb9 (Hid.out HB))
      obtain ⟨a9, c9, rfl, -, -⟩ := RowI.slice hv9
      obtain ⟨a8, c8, rfl, -, -⟩ := RowI.slice hu9
      have g0 := cell_of_row w9 _ 0 _ _ _ hR9; have g1 := cell_of_row w9 _ 1 _ _ _ hR9
      have z0 := frozen_of_row w9 _ 0 _ _ hR9; have z1 := frozen_of_row w9 _ 1 _ _ hR9
      clear hv9 hu9 hap9 hb9 hR9
      go_wp2_with fail
      exact fin_arr rfl rfl rfl HR9.out HV9.out HU9.out HAP9.out HB9.out (by omega)
      done
end Go.Proofs.Ytmjkncmpanhgjaa

namespace Go.Proofs.Ytmjkncmpanhgjaa
set_option maxRecDepth 100000
open Go.RowKit
set_option linter.unusedVariables false
set_option linter.unusedSimpArgs false

/-! prim.Dyad: a number with an array; whole. -/
theorem one_of_none {s d : List Int} (h : right s d = true) (h0 : s.length = 0) : d.length = 1 := by
  have e := (right_good h).1
  rw [List.eq_nil_of_length_eq_zero h0] at e
  have : size [] = (1, 0) := rfl
  rw [this] at e
  injection e with e
  omega
theorem head_getD (d : List Int) : d.getD 0 0 = d.headD 0 := by cases d <;> rfl
theorem rep_getD {n k : Nat} (x : Int) (h : k < n) : (List.replicate n x).getD k 0 = x := by
  rw [List.getD_eq_getElem?_getD, List.getElem?_replicate, if_pos h]; rfl
theorem Duo.putx {w W : World} {v u v2 u2 : Value} (h : Duo w W v u v2 u2) (z : Value) : Duo w (W.setCell ⟨w.heap.size, 0, none⟩ z) z u v2 u2 := h.put0 z
theorem RowI.box {B : Nat} {W : World} {x z : Value} {xs : List Int} {g k : Nat} {cs : Array Value} (h : RowI B W x xs) (hg : W.heap[g]? = some (.cells cs 24 (0, 0))) : RowI B (W.setCell ⟨g, k, none⟩ z) x xs :=
  own_keep h (KeepTy.setCell (p := ⟨g, k, none⟩) (NotTy.of hg (by decide)) _)
theorem PairAt.box {W : World} {P F : Nat} {f wr : Int} {z : Value} {g k : Nat} {cs : Array Value} (h : PairAt W P F f wr) (hg : W.heap[g]? = some (.cells cs 24 (0, 0))) : PairAt (W.setCell ⟨g, k, none⟩ z) P F f wr :=
  ⟨KeepTy.setCell (p := ⟨g, k, none⟩) (NotTy.of hg (by decide)) _ _ _ h.p, KeepTy.setCell (p := ⟨g, k, none⟩) (NotTy.of hg (by decide)) _ _ _ h.f⟩
set_option maxHeartbeats 8000000 in
theorem pd_none (w : World) (f : Int) (v u v2 u2 : Value) (s d t e : List Int) (hs : SlA w v s) (hd : SlA w u d) (ht : SlA w v2 t) (he : SlA w u2 e) (hr1 : right s d = true) (hr2 : right t e = true) (htk : takes f true = true) (hst : s ≠ t) (hs0 : s.length ≠ 0) (ht0 : t.length ≠ 0) :
    Calls Try.prog 17 #[.int .u8 f, .agg #[v, u], .agg #[v2, u2]] w fun e' w' => RetArr w.heap.size (noA 72) e' w' ∧ Below w.heap.size w w' := by
  have hf := (takes_in htk).2
  have g0 : (f == 37) = false := by rw [beq_eq_false_iff_ne]; omega
  have g1 : (f == 38) = false := by rw [beq_eq_false_iff_ne]; omega
  have g2 : (f == 39) = false := by rw [beq_eq_false_iff_ne]; omega
  have g3 : (f == 40) = false := by rw [beq_eq_false_iff_ne]; omega
  have hs4 := (right_good hr1).2.len
  have HST := Lib.hid hst
  have HR1 := Lib.hid hr1; have HR2 := Lib.hid hr2
  have HT := Lib.hid (fun W => takes_at W f true true htk)
  have hs1 : ((s.length : Int) == 0) = false := by rw [beq_eq_false_iff_ne]; omega
  have ht1 : ((t.length : Int) == 0) = false := by rw [beq_eq_false_iff_ne]; omega
  clear hr1 hr2 hf htk hst hs0 ht0
  have HS0 := Lib.hid hs.src; have HS1 := Lib.hid hd.src; have HS2 := Lib.hid ht.src; have HS3 := Lib.hid he.src
  obtain ⟨a0, c0, rfl, h01, h02, -, h04, -⟩ := hs
  obtain ⟨a1, c1, rfl, h11, h12, -, h14, hin⟩ := hd
  obtain ⟨a2, c2, rfl, h21, h22, -, h24, -⟩ := ht
  obtain ⟨a3, c3, rfl, h31, h32, -, h34, hie⟩ := he
  have h02' : c0 ≤ 9223372036854775807 := h02
  have h12' : c1 ≤ 9223372036854775807 := h12
  have h22' : c2 ≤ 9223372036854775807 := h22
  have h32' : c3 ≤ 9223372036854775807 := h32
  have HM : Hid (s.length ≤ maxLen) := Lib.hid (Nat.le_trans h01 h02)
  have HM2 : Hid (t.length ≤ maxLen) := Lib.hid (Nat.le_trans h21 h22)
  have H0 := Lib.hid h04; have H1 := Lib.hid h14; have HIN := Lib.hid hin
  have H2 := Lib.hid h24; have H3 := Lib.hid h34; have HIE := Lib.hid hie
  have HO := Lib.hid (Duo.mk0 w (.slice a0 s.length c0) (.slice a1 d.length c1) (.slice a2 t.length c2) (.slice a3 e.length c3))
  obtain ⟨r, HRR⟩ : ∃ r, Hid ((noA 72) = r) := ⟨_, Lib.hid rfl⟩
  rw [HRR.out]
  clear h04 h14 h24 h34 h02 h12 h22 h32 hin hie
  go_enter Try.func17, Try.ntmps17
  go_upto_region 1 with fail
  refine gen_worldA (fun W => Duo w W (.slice a0 s.length c0) (.slice a1 d.length c1) (.slice a2 t.length c2) (.slice a3 e.length c3)) HO.out ?_
  rintro W1 hO
  have HO2 := Lib.hid hO
  have x0 := hO.c0; have x1 := hO.c1; have x2 := hO.c2; have x3 := hO.c3
  clear HO hO
  have hq := right_any W1 a0 a1 c0 c1 s d HM.out (H0.out.below HO2.out.b (Nat.le_refl _))
  rw [HR1.out] at hq
  have HQ := Lib.hid hq
  clear hq
  go_wp2_with fail
  refine HQ.out.mono ?_
  rintro e' W2 ⟨rfl, hb2⟩
  have HO3 := Lib.hid (HO2.out.next hb2)
  have hq := right_any W2 a2 a3 c2 c3 t e HM2.out (H2.out.below HO3.out.b (Nat.le_refl _))
  rw [HR2.out] at hq
  clear HQ x0 x1 x2 x3
  have HQ := Lib.hid hq
  have x2 := HO3.out.c2; have x3 := HO3.out.c3
  clear hq hb2 HO2
  go_wp2_with fail
  refine HQ.out.mono ?_
  rintro e' W3 ⟨rfl, hb3⟩
  have HO4 := Lib.hid (HO3.out.next hb3)
  clear HQ x2 x3 hb3 HO3
  have x0 := HO4.out.c0; have x1 := HO4.out.c1; have x2 := HO4.out.c2; have x3 := HO4.out.c3
  have HQ0 := Lib.hid (HT.out W3)
  go_wp2_with fail
  refine HQ0.out.mono ?_
  rintro e' W4 ⟨rfl, rfl⟩
  have HQ1 := Lib.hid (of_any W3 f)
  clear HQ0 HT g0 g1 g2 g3 x0 x1 x2 x3
  go_wp2_with fail
  refine HQ1.out.mono ?_
  rintro e' W5 ⟨rfl, hp5, hb5⟩
  have HO5 := Lib.hid (HO4.out.next hb5)
  have hP : w.heap.size ≤ W3.heap.size + 1 := by have := HO4.out.b.size; omega
  obtain ⟨P, hPe⟩ : ∃ P, W3.heap.size + 1 = P := ⟨_, rfl⟩
  obtain ⟨F, hFe⟩ : ∃ F, W3.heap.size = F := ⟨_, rfl⟩
  rw [hPe] at hp5 hP ⊢
  rw [hFe] at hp5
  have HPA := Lib.hid hp5; have hPw := Lib.hid hP
  clear HQ1 hp5 hb5 HO4 hPe hFe hP
  have x0 := HO5.out.c0; have x1 := HO5.out.c1; have x2 := HO5.out.c2; have x3 := HO5.out.c3
  have hq := equal_any W5 a0 a2 c0 c2 s t HM.out HM2.out (H0.out.below HO5.out.b (Nat.le_refl _)) (H2.out.below HO5.out.b (Nat.le_refl _))
  have HQ := Lib.hid hq
  clear hq
  go_wp2_with fail
  refine HQ.out.mono ?_
  rintro e' W6 ⟨rfl, n6, rfl⟩
  have HO6 := Lib.hid (HO5.out.next (Below.drewN W5 n6)); have HPB := Lib.hid (HPA.out.below (Below.drewN W5 n6))
  clear HQ HO5 HPA x0 x1 x2 x3
  obtain ⟨W7, hW7⟩ : ∃ W, W5.drewN n6 = W := ⟨_, rfl⟩
  rw [hW7] at HO6 HPB ⊢
  clear hW7
  have hints : ints s t = false := by unfold ints; exact decide_eq_false HST.out
  rw [hints]
  clear hints
  have x0 := HO6.out.c0; have x2 := HO6.out.c2
  have hq := fault_at W7 w.heap.size HO6.out.b.size 72 r HRR.out
  have HQ := Lib.hid hq; have HR := Lib.hid HO6.out.r; have HB := Lib.hid HO6.out.b
  clear hq
  go_wp2_with fail
  refine (Hid.out HQ).mono ?_
  rintro e w9 ⟨⟨v9, u9, rfl, hv9, hu9, hap9⟩, hb9⟩
  have hR9 := block_below (Hid.out HR) hb9
  have HV9 := Lib.hid hv9; have HU9 := Lib.hid hu9; have HAP9 := Lib.hid hap9; have HR9 := Lib.hid hR9
  have HB9 := Lib.hid (bNext hb9 (Hid.out HB))
  obtain ⟨a9, c9, rfl, -, -⟩ := RowI.slice hv9
  obtain ⟨a8, c8, rfl, -, -⟩ := RowI.slice hu9
  have g0 := cell_of_row w9 _ 0 _ _ _ hR9; have g1 := cell_of_row w9 _ 1 _ _ _ hR9
  have z0 := frozen_of_row w9 _ 0 _ _ hR9; have z1 := frozen_of_row w9 _ 1 _ _ hR9
  clear hv9 hu9 hap9 hb9 hR9
  go_wp2_with fail
  exact fin_arr rfl rfl rfl HR9.out HV9.out HU9.out HAP9.out HB9.out (by omega)
set_option maxHeartbeats 8000000 in
theorem pd_left (w : World) (f : Int) (v u v2 u2 : Value) (s d t e : List Int) (hs : SlA w v s) (hd : SlA w u d) (ht : SlA w v2 t) (he : SlA w u2 e) (hr1 : right s d = true) (hr2 : right t e = true) (htk : takes f true = true) (hst : s ≠ t) (hs0 : s.length = 0) :
    Calls Try.prog 17 #[.int .u8 f, .agg #[v, u], .agg #[v2, u2]] w fun e' w' => RetArr w.heap.size (pairsA f (List.replicate e.length (d.headD 0)) e t) e' w' ∧ Below w.heap.size w w' := by
  have hf := (takes_in htk).2
  have g0 : (f == 37) = false := by rw [beq_eq_false_iff_ne]; omega
  have g1 : (f == 38) = false := by rw [beq_eq_false_iff_ne]; omega
  have g2 : (f == 39) = false := by rw [beq_eq_false_iff_ne]; omega
  have g3 : (f == 40) = false := by rw [beq_eq_false_iff_ne]; omega
  have hd1 := one_of_none hr1 hs0
  have he6 := (right_good hr2).2.le
  have ht4 := (right_good hr2).2.len
  have HST := Lib.hid hst
  have HR1 := Lib.hid hr1; have HR2 := Lib.hid hr2; have HTK := Lib.hid htk
  have HT := Lib.hid (fun W => takes_at W f true true htk)
  have hs1 : ((s.length : Int) == 0) = true := by rw [beq_iff_eq]; omega
  have hd0 : (0 : Int) < (d.length : Int) := by omega
  have hdl : 0 < d.length := by omega
  rw [pairsA_eq]
  have hxd := head_getD d
  obtain ⟨x, hx0⟩ : ∃ x, d.headD 0 = x := ⟨_, rfl⟩
  rw [hx0] at hxd ⊢
  have HXD := Lib.hid hxd
  obtain ⟨xs, hxs⟩ : ∃ xs, List.replicate e.length x = xs := ⟨_, rfl⟩
  have HXL : Hid (xs.length = e.length) := Lib.hid (by rw [← hxs]; simp)
  have HXG : Hid (∀ k, k < e.length → xs.getD k 0 = x) := Lib.hid fun k hk => by rw [← hxs]; exact rep_getD x hk
  rw [hxs]
  clear hr1 hr2 hf htk hst hs0 hd1 hx0 hxd hxs
  have HS0 := Lib.hid hs.src; have HS1 := Lib.hid hd.src; have HS2 := Lib.hid ht.src; have HS3 := Lib.hid he.src
  obtain ⟨a0, c0, rfl, h01, h02, -, h04, -⟩ := hs
  obtain ⟨a1, c1, rfl, h11, h12, -, h14, hin⟩ := hd
  obtain ⟨a2, c2, rfl, h21, h22, -, h24, -⟩ := ht
  obtain ⟨a3, c3, rfl, h31, h32, -, h34, hie⟩ := he
  have h02' : c0 ≤ 9223372036854775807 := h02
  have h12' : c1 ≤ 9223372036854775807 := h12
  have h22' : c2 ≤ 9223372036854775807 := h22
  have h32' : c3 ≤ 9223372036854775807 := h32
  have HM : Hid (s.length ≤ maxLen) := Lib.hid (Nat.le_trans h01 h02)
  have HM2 : Hid (t.length ≤ maxLen) := Lib.hid (Nat.le_trans h21 h22)
  have H0 := Lib.hid h04; have H1 := Lib.hid h14; have HIN := Lib.hid hin
  have H2 := Lib.hid h24; have H3 := Lib.hid h34; have HIE := Lib.hid hie
  have HO := Lib.hid (Duo.mk0 w (.slice a0 s.length c0) (.slice a1 d.length c1) (.slice a2 t.length c2) (.slice a3 e.length c3))
  obtain ⟨r, HRR⟩ : ∃ r, Hid ((doneA (wrongP f (xs.zip e)) t (outP f (xs.zip e))) = r) := ⟨_, Lib.hid rfl⟩
  rw [HRR.out]
  clear h04 h14 h24 h34 h02 h12 h22 h32 hin hie
  go_enter Try.func17, Try.ntmps17
  go_upto_region 1 with fail
  refine gen_worldA (fun W => Duo w W (.slice a0 s.length c0) (.slice a1 d.length c1) (.slice a2 t.length c2) (.slice a3 e.length c3)) HO.out ?_
  rintro W1 hO
  have HO2 := Lib.hid hO
  have x0 := hO.c0; have x1 := hO.c1; have x2 := hO.c2; have x3 := hO.c3
  clear HO hO
  have hq := right_any W1 a0 a1 c0 c1 s d HM.out (H0.out.below HO2.out.b (Nat.le_refl _))
  rw [HR1.out] at hq
  have HQ := Lib.hid hq
  clear hq
  go_wp2_with fail
  refine HQ.out.mono ?_
  rintro e' W2 ⟨rfl, hb2⟩
  have HO3 := Lib.hid (HO2.out.next hb2)
  have hq := right_any W2 a2 a3 c2 c3 t e HM2.out (H2.out.below HO3.out.b (Nat.le_refl _))
  rw [HR2.out] at hq
  clear HQ x0 x1 x2 x3
  have HQ := Lib.hid hq
  have x2 := HO3.out.c2; have x3 := HO3.out.c3
  clear hq hb2 HO2
  go_wp2_with fail
  refine HQ.out.mono ?_
  rintro e' W3 ⟨rfl, hb3⟩
  have HO4 := Lib.hid (HO3.out.next hb3)
  clear HQ x2 x3 hb3 HO3
  have x0 := HO4.out.c0; have x1 := HO4.out.c1; have x2 := HO4.out.c2; have x3 := HO4.out.c3
  have HQ0 := Lib.hid (HT.out W3)
  go_wp2_with fail
  refine HQ0.out.mono ?_
  rintro e' W4 ⟨rfl, rfl⟩
  have HQ1 := Lib.hid (of_any W3 f)
  clear HQ0 HT g0 g1 g2 g3 x0 x1 x2 x3
  go_wp2_with fail
  refine HQ1.out.mono ?_
  rintro e' W5 ⟨rfl, hp5, hb5⟩
  have HO5 := Lib.hid (HO4.out.next hb5)
  have hP : w.heap.size ≤ W3.heap.size + 1 := by have := HO4.out.b.size; omega
  obtain ⟨P, hPe⟩ : ∃ P, W3.heap.size + 1 = P := ⟨_, rfl⟩
  obtain ⟨F, hFe⟩ : ∃ F, W3.heap.size = F := ⟨_, rfl⟩
  rw [hPe] at hp5 hP ⊢
  rw [hFe] at hp5
  have HPA := Lib.hid hp5; have hPw := Lib.hid hP
  clear HQ1 hp5 hb5 HO4 hPe hFe hP
  have x0 := HO5.out.c0; have x1 := HO5.out.c1; have x2 := HO5.out.c2; have x3 := HO5.out.c3
  have hq := equal_any W5 a0 a2 c0 c2 s t HM.out HM2.out (H0.out.below HO5.out.b (Nat.le_refl _)) (H2.out.below HO5.out.b (Nat.le_refl _))
  have HQ := Lib.hid hq
  clear hq
  go_wp2_with fail
  refine HQ.out.mono ?_
  rintro e' W6 ⟨rfl, n6, rfl⟩
  have HO6 := Lib.hid (HO5.out.next (Below.drewN W5 n6)); have HPB := Lib.hid (HPA.out.below (Below.drewN W5 n6))
  clear HQ HO5 HPA x0 x1 x2 x3
  obtain ⟨W7, hW7⟩ : ∃ W, W5.drewN n6 = W := ⟨_, rfl⟩
  rw [hW7] at HO6 HPB ⊢
  clear hW7
  have hints : ints s t = false := by unfold ints; exact decide_eq_false HST.out
  rw [hints]
  clear hints
  have x0 := HO6.out.c0; have x3 := HO6.out.c3
  go_wp2_with fail
  clear x0 x3 hs1
  go_loopw [9, 98] (fun o i wr => ∃ k : Nat, k ≤ e.length ∧ i = .int .i64 k ∧ Duo w wr (.slice a0 s.length c0) (.slice a1 d.length c1) (.slice a2 t.length c2) (.slice a3 e.length c3) ∧
    PairAt wr P F f (wrongP f ((xs.zip e).take k)) ∧ RowI w.heap.size wr o (outP f ((xs.zip e).take k))) (fun _ i _ => e.length - (intOf i).toNat)
  case atStart => exact ⟨0, by omega, rfl, HO6.out, HPB.out, RowI.nil _ _⟩
  case round =>
    obtain ⟨k, hk, rfl, hO, hpa, hrw⟩ := hrel
    clear HO6 HPB
    have x1 := hO.c1
    by_cases hlt : k < e.length
    · have hz := zip_step HXL.out (k := k) (by rw [HXL.out]; exact hlt)
      rw [HXG.out k hlt] at hz
      obtain ⟨b1, o1, rfl, hc1⟩ := H1.out.atD hdl
      rw [HXD.out, Nat.add_zero] at hc1
      obtain ⟨b3, o3, rfl, hc3⟩ := H3.out.atD hlt
      have hc1 := keepCell hO.b hc1; have hc3 := keepCell hO.b hc3
      have hx := In64.getD HIN.out hdl; have hy := In64.getD HIE.out hlt
      rw [HXD.out] at hx
      have hke : (k : Int) < (e.length : Int) := by omega
      generalize e.getD k 0 = y at hz hc3 hy
      have hol : (outP f ((xs.zip e).take k)).length ≤ 65536 := by rw [outP_len, List.length_take]; omega
      have hO1 : outP f ((xs.zip e).take (k + 1)) = outP f ((xs.zip e).take k) ++ [callV f x y] := by rw [hz, outP_snoc]
      have hW1 : wrongP f ((xs.zip e).take (k + 1)) = nextE f x y (wrongP f ((xs.zip e).take k)) := by rw [hz, wrongP_snoc]
      have HOL := Lib.hid hol; have HO1 := Lib.hid hO1; have HW1 := Lib.hid hW1
      have hcl := call_any wr P F f _ x y hpa HTK.out hx hy
      have HC := Lib.hid hcl; have HOR := Lib.hid hO; have HPA := Lib.hid hpa; have HRW := Lib.hid hrw
      clear hz hol hO1 hW1 hcl hO hpa hrw hx hy
      generalize outP f ((xs.zip e).take k) = ou at HOL HO1 HRW ⊢
      generalize wrongP f ((xs.zip e).take k) = wg at HW1 HPA HC
      go_wp2_with fail
      refine HC.out.mono ?_
      rintro e' w5 ⟨rfl, hp5, hk5⟩
      have HO5 := Lib.hid (HOR.out.call HPA.out hPw.out hk5)
      have HV5 := Lib.hid (HRW.out.call HPA.out hk5)
      have HP5 := Lib.hid hp5
      have hba : Below w5.heap.size w5 (w5.alloc (.cells #[.int .i64 (callV f x y)] 2)) := (Below.refl _ _).alloc (Nat.le_refl _) _
      have HBA := Lib.hid hba; have HR6 := Lib.hid (HV5.out.below hba)
      have hsz := (HO5.out.next hba).b.size
      clear hp5 hk5 HC HOR HPA HRW hba x1 hc1 hc3
      go_wp2_with (at_builtin; refine wpList_app rfl _ _ rfl w.heap.size _ ou [callV f x y] _ 1 rfl rfl HR6.out rfl (src_one w5 (callV f x y) _ rfl) (by have := HOL.out; omega) hsz ?_)
      intro v' w9 hv9 hg9 hn9
      have hv9 : RowI w.heap.size w9 v' (ou ++ [callV f x y]) := hv9
      rw [← HO1.out] at hv9
      have HV9 := Lib.hid hv9
      have HO9 := Lib.hid (HO5.out.app HBA.out HR6.out hg9); have HP9 := Lib.hid (HP5.out.app HBA.out HR6.out hg9)
      rw [← HW1.out] at HP9
      clear hv9 hg9 hn9 HBA HR6 HO5 HV5 HP5 HO1 HW1 hsz
      go_wp2_with fail
      go_roundw
      case rel => exact ⟨k + 1, by omega, by go_num, HO9.out, HP9.out, HV9.out⟩
      case measure => simp [intOf] <;> omega
    · obtain rfl : k = e.length := by omega
      have hall : (xs.zip e).take e.length = xs.zip e := List.take_of_length_le (by simp; omega)
      rw [hall] at hpa hrw
      have x2 := hO.c2; have x0 := hO.c0
      have f0 := frozen_of_row wr w.heap.size 0 _ _ hO.x
      have HO7 := Lib.hid (hO.put0 (.slice a2 t.length c2)); have HP7 := Lib.hid (hpa.box (z := .slice a2 t.length c2) (k := 0) hO.x); have HV7 := Lib.hid (hrw.box (z := .slice a2 t.length c2) (k := 0) hO.x)
      have hlw := hO.lt
      have hlw0 : w.heap.size < wr.heap.size := by omega
      obtain ⟨a9, c9, e9, -, -⟩ := hrw.slice
      subst e9
      clear hO hpa hrw hlt hall x1
      go_upto_region 35 with fail
      refine gen_worldA (fun W => Duo w W (.slice a2 t.length c2) (.slice a1 d.length c1) (.slice a2 t.length c2) (.slice a3 e.length c3) ∧ PairAt W P F f (wrongP f (xs.zip e)) ∧ RowI w.heap.size W (.slice a9 (outP f (xs.zip e)).length c9) (outP f (xs.zip e))) ⟨HO7.out, HP7.out, HV7.out⟩ ?_
      rintro W8 ⟨hO, hpa, hrw⟩
      have hcl := clone_any W8 a2 c2 t (by omega) (H2.out.below hO.b (Nat.le_refl _))
      have HC := Lib.hid hcl; have HOR := Lib.hid hO; have HPA := Lib.hid hpa; have HRW := Lib.hid hrw
      clear x0 x2 f0 HO7 HP7 HV7
      have x0 := hO.c0
      clear hcl hO hpa hrw
      go_wp2_with fail
      refine HC.out.mono ?_
      rintro e' w5 ⟨⟨v5, rfl, hv5⟩, hb5⟩
      have HO5 := Lib.hid (HOR.out.next hb5)
      have hap := (Apart.of_rows HRW.out hv5).symm
      have hq := done_any w5 w.heap.size P F f _ (HPA.out.below hb5) t _ v5 _ HO5.out.b.size (hv5.mono HOR.out.b.size) (HRW.out.below hb5) hap
      rw [HRR.out] at hq
      have HQ := Lib.hid hq; have HR := Lib.hid HO5.out.r; have HB := Lib.hid HO5.out.b
      obtain ⟨a8, c8, rfl, -, -⟩ := hv5.slice
      clear hq hv5 hb5 hap HC HOR HPA HRW x0
      go_wp2_with fail
      refine (Hid.out HQ).mono ?_
      rintro e w9 ⟨⟨v9, u9, rfl, hv9, hu9, hap9⟩, hb9⟩
      have hR9 := block_below (Hid.out HR) hb9
      have HV9 := Lib.hid hv9; have HU9 := Lib.hid hu9; have HAP9 := Lib.hid hap9; have HR9 := Lib.hid hR9
      have HB9 := Lib.hid (bNext hb9 (Hid.out HB))
      obtain ⟨a9, c9, rfl, -, -⟩ := RowI.slice hv9
      obtain ⟨a8, c8, rfl, -, -⟩ := RowI.slice hu9
      have g0 := cell_of_row w9 _ 0 _ _ _ hR9; have g1 := cell_of_row w9 _ 1 _ _ _ hR9
      have z0 := frozen_of_row w9 _ 0 _ _ hR9; have z1 := frozen_of_row w9 _ 1 _ _ hR9
      clear hv9 hu9 hap9 hb9 hR9
      go_wp2_with fail
      exact fin_arr rfl rfl rfl HR9.out HV9.out HU9.out HAP9.out HB9.out (by omega)
set_option maxHeartbeats 8000000 in
theorem pd_right (w : World) (f : Int) (v u v2 u2 : Value) (s d t e : List Int) (hs : SlA w v s) (hd : SlA w u d) (ht : SlA w v2 t) (he : SlA w u2 e) (hr1 : right s d = true) (hr2 : right t e = true) (htk : takes f true = true) (hst : s ≠ t) (hs0 : s.length ≠ 0) (ht0 : t.length = 0) :
    Calls Try.prog 17 #[.int .u8 f, .agg #[v, u], .agg #[v2, u2]] w fun e' w' => RetArr w.heap.size (pairsA f d (List.replicate d.length (e.headD 0)) s) e' w' ∧ Below w.heap.size w w' := by
  have hf := (takes_in htk).2
  have g0 : (f == 37) = false := by rw [beq_eq_false_iff_ne]; omega
  have g1 : (f == 38) = false := by rw [beq_eq_false_iff_ne]; omega
  have g2 : (f == 39) = false := by rw [beq_eq_false_iff_ne]; omega
  have g3 : (f == 40) = false := by rw [beq_eq_false_iff_ne]; omega
  have he1 := one_of_none hr2 ht0
  have hd6 := (right_good hr1).2.le
  have hs4 := (right_good hr1).2.len
  have HST := Lib.hid hst
  have HR1 := Lib.hid hr1; have HR2 := Lib.hid hr2; have HTK := Lib.hid htk
  have HT := Lib.hid (fun W => takes_at W f true true htk)
  have hs1 : ((s.length : Int) == 0) = false := by rw [beq_eq_false_iff_ne]; omega
  have ht1 : ((t.length : Int) == 0) = true := by rw [beq_iff_eq]; omega
  have he0 : (0 : Int) < (e.length : Int) := by omega
  have hel : 0 < e.length := by omega
  rw [pairsA_eq]
  have hxd := head_getD e
  obtain ⟨y, hx0⟩ : ∃ x, e.headD 0 = x := ⟨_, rfl⟩
  rw [hx0] at hxd ⊢
  have HXD := Lib.hid hxd
  obtain ⟨xs, hxs⟩ : ∃ xs, List.replicate d.length y = xs := ⟨_, rfl⟩
  have HXL : Hid (d.length = xs.length) := Lib.hid (by rw [← hxs]; simp)
  have HXG : Hid (∀ k, k < d.length → xs.getD k 0 = y) := Lib.hid fun k hk => by rw [← hxs]; exact rep_getD y hk
  rw [hxs]
  clear hr1 hr2 hf htk hst hs0 ht0 he1 hx0 hxd hxs
  have HS0 := Lib.hid hs.src; have HS1 := Lib.hid hd.src; have HS2 := Lib.hid ht.src; have HS3 := Lib.hid he.src
  obtain ⟨a0, c0, rfl, h01, h02, -, h04, -⟩ := hs
  obtain ⟨a1, c1, rfl, h11, h12, -, h14, hin⟩ := hd
  obtain ⟨a2, c2, rfl, h21, h22, -, h24, -⟩ := ht
  obtain ⟨a3, c3, rfl, h31, h32, -, h34, hie⟩ := he
  have h02' : c0 ≤ 9223372036854775807 := h02
  have h12' : c1 ≤ 9223372036854775807 := h12
  have h22' : c2 ≤ 9223372036854775807 := h22
  have h32' : c3 ≤ 9223372036854775807 := h32
  have HM : Hid (s.length ≤ maxLen) := Lib.hid (Nat.le_trans h01 h02)
  have HM2 : Hid (t.length ≤ maxLen) := Lib.hid (Nat.le_trans h21 h22)
  have H0 := Lib.hid h04; have H1 := Lib.hid h14; have HIN := Lib.hid hin
  have H2 := Lib.hid h24; have H3 := Lib.hid h34; have HIE := Lib.hid hie
  have HO := Lib.hid (Duo.mk0 w (.slice a0 s.length c0) (.slice a1 d.length c1) (.slice a2 t.length c2) (.slice a3 e.length c3))
  obtain ⟨r, HRR⟩ : ∃ r, Hid ((doneA (wrongP f (d.zip xs)) s (outP f (d.zip xs))) = r) := ⟨_, Lib.hid rfl⟩
  rw [HRR.out]
  clear h04 h14 h24 h34 h02 h12 h22 h32 hin hie
  go_enter Try.func17, Try.ntmps17
  go_upto_region 1 with fail
  refine gen_worldA (fun W => Duo w W (.slice a0 s.length c0) (.slice a1 d.length c1) (.slice a2 t.length c2) (.slice a3 e.length c3)) HO.out ?_
  rintro W1 hO
  have HO2 := Lib.hid hO
  have x0 := hO.c0; have x1 := hO.c1; have x2 := hO.c2; have x3 := hO.c3
  clear HO hO
  have hq := right_any W1 a0 a1 c0 c1 s d HM.out (H0.out.below HO2.out.b (Nat.le_refl _))
  rw [HR1.out] at hq
  have HQ := Lib.hid hq
  clear hq
  go_wp2_with fail
  refine HQ.out.mono ?_
  rintro e' W2 ⟨rfl, hb2⟩
  have HO3 := Lib.hid (HO2.out.next hb2)
  have hq := right_any W2 a2 a3 c2 c3 t e HM2.out (H2.out.below HO3.out.b (Nat.le_refl _))
  rw [HR2.out] at hq
  clear HQ x0 x1 x2 x3
  have HQ := Lib.hid hq
  have x2 := HO3.out.c2; have x3 := HO3.out.c3
  clear hq hb2 HO2
  go_wp2_with fail
  refine HQ.out.mono ?_
  rintro e' W3 ⟨rfl, hb3⟩
  have HO4 := Lib.hid (HO3.out.next hb3)
  clear HQ x2 x3 hb3 HO3
  have x0 := HO4.out.c0; have x1 := HO4.out.c1; have x2 := HO4.out.c2; have x3 := HO4.out.c3
  have HQ0 := Lib.hid (HT.out W3)
  go_wp2_with fail
  refine HQ0.out.mono ?_
  rintro e' W4 ⟨rfl, rfl⟩
  have HQ1 := Lib.hid (of_any W3 f)
  clear HQ0 HT g0 g1 g2 g3 x0 x1 x2 x3
  go_wp2_with fail
  refine HQ1.out.mono ?_
  rintro e' W5 ⟨rfl, hp5, hb5⟩
  have HO5 := Lib.hid (HO4.out.next hb5)
  have hP : w.heap.size ≤ W3.heap.size + 1 := by have := HO4.out.b.size; omega
  obtain ⟨P, hPe⟩ : ∃ P, W3.heap.size + 1 = P := ⟨_, rfl⟩
  obtain ⟨F, hFe⟩ : ∃ F, W3.heap.size = F := ⟨_, rfl⟩
  rw [hPe] at hp5 hP ⊢
  rw [hFe] at hp5
  have HPA := Lib.hid hp5; have hPw := Lib.hid hP
  clear HQ1 hp5 hb5 HO4 hPe hFe hP
  have x0 := HO5.out.c0; have x1 := HO5.out.c1; have x2 := HO5.out.c2; have x3 := HO5.out.c3
  have hq := equal_any W5 a0 a2 c0 c2 s t HM.out HM2.out (H0.out.below HO5.out.b (Nat.le_refl _)) (H2.out.below HO5.out.b (Nat.le_refl _))
  have HQ := Lib.hid hq
  clear hq
  go_wp2_with fail
  refine HQ.out.mono ?_
  rintro e' W6 ⟨rfl, n6, rfl⟩
  have HO6 := Lib.hid (HO5.out.next (Below.drewN W5 n6)); have HPB := Lib.hid (HPA.out.below (Below.drewN W5 n6))
  clear HQ HO5 HPA x0 x1 x2 x3
  obtain ⟨W7, hW7⟩ : ∃ W, W5.drewN n6 = W := ⟨_, rfl⟩
  rw [hW7] at HO6 HPB ⊢
  clear hW7
  have hints : ints s t = false := by unfold ints; exact decide_eq_false HST.out
  rw [hints]
  clear hints
  have x0 := HO6.out.c0; have x1 := HO6.out.c1; have x2 := HO6.out.c2
  go_wp2_with fail
  clear x0 x1 x2 hs1 ht1
  go_loopw [9, 124] (fun o i wr => ∃ k : Nat, k ≤ d.length ∧ i = .int .i64 k ∧ Duo w wr (.slice a0 s.length c0) (.slice a1 d.length c1) (.slice a2 t.length c2) (.slice a3 e.length c3) ∧
    PairAt wr P F f (wrongP f ((d.zip xs).take k)) ∧ RowI w.heap.size wr o (outP f ((d.zip xs).take k))) (fun _ i _ => d.length - (intOf i).toNat)
  case atStart => exact ⟨0, by omega, rfl, HO6.out, HPB.out, RowI.nil _ _⟩
  case round =>
    obtain ⟨k, hk, rfl, hO, hpa, hrw⟩ := hrel
    clear HO6 HPB
    have x0 := hO.c0; have x3 := hO.c3
    by_cases hlt : k < d.length
    · have hz := zip_step HXL.out hlt
      rw [HXG.out k hlt] at hz
      obtain ⟨b3, o3, rfl, hc3⟩ := H3.out.atD hel
      rw [HXD.out, Nat.add_zero] at hc3
      obtain ⟨b1, o1, rfl, hc1⟩ := H1.out.atD hlt
      have hc1 := keepCell hO.b hc1; have hc3 := keepCell hO.b hc3
      have hx := In64.getD HIN.out hlt; have hy := In64.getD HIE.out hel
      rw [HXD.out] at hy
      have hke : (k : Int) < (d.length : Int) := by omega
      generalize d.getD k 0 = x at hz hc1 hx
      have hol : (outP f ((d.zip xs).take k)).length ≤ 65536 := by rw [outP_len, List.length_take]; omega
      have hO1 : outP f ((d.zip xs).take (k + 1)) = outP f ((d.zip xs).take k) ++ [callV f x y] := by rw [hz, outP_snoc]
      have hW1 : wrongP f ((d.zip xs).take (k + 1)) = nextE f x y (wrongP f ((d.zip xs).take k)) := by rw [hz, wrongP_snoc]
      have HOL := Lib.hid hol; have HO1 := Lib.hid hO1; have HW1 := Lib.hid hW1
      have hcl := call_any wr P F f _ x y hpa HTK.out hx hy
      have HC := Lib.hid hcl; have HOR := Lib.hid hO; have HPA := Lib.hid hpa; have HRW := Lib.hid hrw
      clear hz hol hO1 hW1 hcl hO hpa hrw hx hy x0
      generalize outP f ((d.zip xs).take k) = ou at HOL HO1 HRW ⊢
      generalize wrongP f ((d.zip xs).take k) = wg at HW1 HPA HC
      go_wp2_with fail
      refine HC.out.mono ?_
      rintro e' w5 ⟨rfl, hp5, hk5⟩
      have HO5 := Lib.hid (HOR.out.call HPA.out hPw.out hk5)
      have HV5 := Lib.hid (HRW.out.call HPA.out hk5)
      have HP5 := Lib.hid hp5
      have hba : Below w5.heap.size w5 (w5.alloc (.cells #[.int .i64 (callV f x y)] 2)) := (Below.refl _ _).alloc (Nat.le_refl _) _
      have HBA := Lib.hid hba; have HR6 := Lib.hid (HV5.out.below hba)
      have hsz := (HO5.out.next hba).b.size
      clear hp5 hk5 HC HOR HPA HRW hba x3 hc1 hc3
      go_wp2_with (at_builtin; refine wpList_app rfl _ _ rfl w.heap.size _ ou [callV f x y] _ 1 rfl rfl HR6.out rfl (src_one w5 (callV f x y) _ rfl) (by have := HOL.out; omega) hsz ?_)
      intro v' w9 hv9 hg9 hn9
      have hv9 : RowI w.heap.size w9 v' (ou ++ [callV f x y]) := hv9
      rw [← HO1.out] at hv9
      have HV9 := Lib.hid hv9
      have HO9 := Lib.hid (HO5.out.app HBA.out HR6.out hg9); have HP9 := Lib.hid (HP5.out.app HBA.out HR6.out hg9)
      rw [← HW1.out] at HP9
      clear hv9 hg9 hn9 HBA HR6 HO5 HV5 HP5 HO1 HW1 hsz
      go_wp2_with fail
      go_roundw
      case rel => exact ⟨k + 1, by omega, by go_num, HO9.out, HP9.out, HV9.out⟩
      case measure => simp [intOf] <;> omega
    · obtain rfl : k = d.length := by omega
      have hall : (d.zip xs).take d.length = d.zip xs := List.take_of_length_le (by simp; omega)
      rw [hall] at hpa hrw
      have hcl := clone_any wr a0 c0 s (by omega) (H0.out.below hO.b (Nat.le_refl _))
      have HC := Lib.hid hcl; have HOR := Lib.hid hO; have HPA := Lib.hid hpa; have HRW := Lib.hid hrw
      obtain ⟨a9, c9, e9, -, -⟩ := hrw.slice
      subst e9
      clear hcl hO hpa hrw hlt hall
      go_wp2_with fail
      refine HC.out.mono ?_
      rintro e' w5 ⟨⟨v5, rfl, hv5⟩, hb5⟩
      have HO5 := Lib.hid (HOR.out.next hb5)
      have hap := (Apart.of_rows HRW.out hv5).symm
      have hq := done_any w5 w.heap.size P F f _ (HPA.out.below hb5) s _ v5 _ HO5.out.b.size (hv5.mono HOR.out.b.size) (HRW.out.below hb5) hap
      rw [HRR.out] at hq
      have HQ := Lib.hid hq; have HR := Lib.hid HO5.out.r; have HB := Lib.hid HO5.out.b
      obtain ⟨a8, c8, rfl, -, -⟩ := hv5.slice
      clear hq hv5 hb5 hap HC HOR HPA HRW
      go_wp2_with fail
      refine (Hid.out HQ).mono ?_
      rintro e w9 ⟨⟨v9, u9, rfl, hv9, hu9, hap9⟩, hb9⟩
      have hR9 := block_below (Hid.out HR) hb9
      have HV9 := Lib.hid hv9; have HU9 := Lib.hid hu9; have HAP9 := Lib.hid hap9; have HR9 := Lib.hid hR9
      have HB9 := Lib.hid (bNext hb9 (Hid.out HB))
      obtain ⟨a9, c9, rfl, -, -⟩ := RowI.slice hv9
      obtain ⟨a8, c8, rfl, -, -⟩ := RowI.slice hu9
      have g0 := cell_of_row w9 _ 0 _ _ _ hR9; have g1 := cell_of_row w9 _ 1 _ _ _ hR9
      have z0 := frozen_of_row w9 _ 0 _ _ hR9; have z1 := frozen_of_row w9 _ 1 _ _ hR9
      clear hv9 hu9 hap9 hb9 hR9
      go_wp2_with fail
      exact fin_arr rfl rfl rfl HR9.out HV9.out HU9.out HAP9.out HB9.out (by omega)
      done
theorem pd_any (w : World) (f : Int) (v u v2 u2 : Value) (s d t e : List Int) (hs : SlA w v s) (hd : SlA w u d) (ht : SlA w v2 t) (he : SlA w u2 e) :
    Calls Try.prog 17 #[.int .u8 f, .agg #[v, u], .agg #[v2, u2]] w fun e' w' => RetArr w.heap.size (dyadA f s d t e) e' w' ∧ Below w.heap.size w w' := by
  cases hr1 : right s d with
  | false => exact retB' (pd_bad1 w f v u v2 u2 s d t e hs hd ht he hr1) (by unfold dyadA; rw [hr1]; rfl)
  | true =>
    cases hr2 : right t e with
    | false => exact retB' (pd_bad2 w f v u v2 u2 s d t e hs hd ht he hr1 hr2) (by unfold dyadA; rw [hr1, hr2]; rfl)
    | true =>
      have e1 : dyadA f s d t e = if f = 37 then rhoA s d t e else if f = 38 then takeA s d t e false else if f = 39 then takeA s d t e true else if f = 40 then catA s d t e
        else if takes f true then (if s = t then pairsA f d e s else if s.length = 0 then pairsA f (List.replicate e.length (d.headD 0)) e t else if t.length = 0 then pairsA f d (List.replicate d.length (e.headD 0)) s else noA 72) else noA 70 := by
        unfold dyadA; rw [hr1, hr2]; rfl
      rw [e1]
      by_cases h1 : f = 37
      · subst h1; exact pd_rho w v u v2 u2 s d t e hs hd ht he hr1 hr2
      rw [if_neg h1]
      by_cases h2 : f = 38
      · subst h2; exact pd_take w v u v2 u2 s d t e hs hd ht he hr1 hr2
      rw [if_neg h2]
      by_cases h3 : f = 39
      · subst h3; exact pd_drop w v u v2 u2 s d t e hs hd ht he hr1 hr2
      rw [if_neg h3]
      by_cases h4 : f = 40
      · subst h4; exact pd_cat w v u v2 u2 s d t e hs hd ht he hr1 hr2
      rw [if_neg h4]
      cases htk : takes f true with
      | false => exact pd_no w f v u v2 u2 s d t e hs hd ht he hr1 hr2 (by omega) htk
      | true =>
        rw [if_pos rfl]
        by_cases hst : s = t
        · rw [if_pos hst]; exact pd_eq w f v u v2 u2 s d t e hs hd ht he hr1 hr2 htk hst
        rw [if_neg hst]
        by_cases hs0 : s.length = 0
        · rw [if_pos hs0]; exact pd_left w f v u v2 u2 s d t e hs hd ht he hr1 hr2 htk hst hs0
        rw [if_neg hs0]
        by_cases ht0 : t.length = 0
        · rw [if_pos ht0]; exact pd_right w f v u v2 u2 s d t e hs hd ht he hr1 hr2 htk hst hs0 ht0
        rw [if_neg ht0]
        exact pd_none w f v u v2 u2 s d t e hs hd ht he hr1 hr2 htk hst hs0 ht0
end Go.Proofs.Ytmjkncmpanhgjaa

namespace Go.Proofs.Ytmjkncmpanhgjaa
set_option maxRecDepth 100000
open Go.RowKit
set_option linter.unusedVariables false
set_option linter.unusedSimpArgs false

/-! Numbers stay in 64 bits; lanes, step by step. -/
theorem ite_pred {α : Type} {p : α → Prop} {c : Prop} [Decidable c] {a b : α} (ha : p a) (hb : p b) : p (if c then a else b) := by split <;> assumption
theorem truth_in (b : Bool) : In64 (truthI b) := by cases b <;> exact ⟨by decide, by decide⟩
theorem bit_of {a : Int} (h : isBit a = true) : a = 0 ∨ a = 1 := by unfold isBit at h; simpa using h
theorem ite_pred' {α : Type} {p : α → Prop} {c : Prop} [Decidable c] {a b : α} (ha : c → p a) (hb : ¬ c → p b) : p (if c then a else b) := by
  by_cases h : c
  · rw [if_pos h]; exact ha h
  · rw [if_neg h]; exact hb h
theorem dyv_in {f a b : Int} (ha : In64 a) (hb : In64 b) (hr : refusesB f a b = false) : In64 (dyv f a b) := by
  have hmin : In64 (min a b) := by unfold In64 at *; omega
  have hmax : In64 (max a b) := by unfold In64 at *; omega
  unfold dyv
  refine ite_pred' (fun h0 => ?_) (fun _ => ?_)
  · exact wrap_in _
  refine ite_pred' (fun h1 => ?_) (fun _ => ?_)
  · exact wrap_in _
  refine ite_pred' (fun h2 => ?_) (fun _ => ?_)
  · exact wrap_in _
  refine ite_pred' (fun h3 => ?_) (fun _ => ?_)
  · exact wrap_in _
  refine ite_pred' (fun h4 => ?_) (fun _ => ?_)
  · exact ite_pred' (fun _ => hb) (fun h => fmod_in h ha)
  refine ite_pred' (fun h5 => ?_) (fun _ => ?_)
  · exact hmin
  refine ite_pred' (fun h6 => ?_) (fun _ => ?_)
  · exact hmax
  refine ite_pred' (fun h7 => ?_) (fun _ => ?_)
  · exact truth_in _
  refine ite_pred' (fun h8 => ?_) (fun _ => ?_)
  · exact truth_in _
  refine ite_pred' (fun h9 => ?_) (fun _ => ?_)
  · exact truth_in _
  refine ite_pred' (fun h10 => ?_) (fun _ => ?_)
  · exact truth_in _
  refine ite_pred' (fun h11 => ?_) (fun _ => ?_)
  · exact truth_in _
  refine ite_pred' (fun h12 => ?_) (fun _ => ?_)
  · (subst h12; unfold refusesB at hr; simp at hr; rcases bit_of hr.1 with rfl | rfl <;> rcases bit_of hr.2 with rfl | rfl <;> exact ⟨by decide, by decide⟩)
  refine ite_pred' (fun h13 => ?_) (fun _ => ?_)
  · exact hmax
  refine ite_pred' (fun h14 => ?_) (fun _ => ?_)
  · exact wrap_in _
  exact truth_in _
theorem dyad_in {f a b : Int} (ha : In64 a) (hb : In64 b) : In64 (dyadF f a b).1 := by
  unfold dyadF
  split
  · split
    · exact ⟨by decide, by decide⟩
    · rename_i h; exact dyv_in ha hb (by simpa using h)
  · exact ⟨by decide, by decide⟩
theorem monad_in {f a : Int} (ha : In64 a) : In64 (monadF f a).1 := by
  have h01 : In64 0 := ⟨by decide, by decide⟩
  have h11 : In64 1 := ⟨by decide, by decide⟩
  show (fun r : Int × Int => In64 r.1) (monadF f a)
  unfold monadF
  refine ite_pred (p := fun r : Int × Int => In64 r.1) (ite_pred (p := fun r : Int × Int => In64 r.1) (wrap_in _) (ite_pred (p := fun r : Int × Int => In64 r.1) ?_ (ite_pred (p := fun r : Int × Int => In64 r.1) (dyad_in h11 ha) (ite_pred (p := fun r : Int × Int => In64 r.1) ?_ ?_)))) h01
  · have h1 := truth_in (decide (0 < a)); have h2 := truth_in (decide (a < 0))
    unfold truthI
    unfold In64
    dsimp only
    split <;> split <;> omega
  · have h1 := wrap_in (-a)
    unfold In64 at *
    dsimp only
    omega
  · by_cases h : f = 16
    · rw [if_pos h]
      by_cases hb : isBit a = true
      · rw [if_pos hb]
        rcases bit_of hb with rfl | rfl <;> exact ⟨by decide, by decide⟩
      · rw [if_neg hb]; exact ⟨by decide, by decide⟩
    · rw [if_neg h]; exact ha
theorem In64.zero : In64 0 := by unfold In64; omega
theorem callV_in64 {f a b : Int} (ha : In64 a) (hb : In64 b) : In64 (callV f a b) := by
  unfold callV
  cases h : refusesB f a b
  · exact dyv_in ha hb h
  · exact In64.zero
def wgB (b : Bool) : Int := if b then 11 else 0
theorem nextE_wg (f a b : Int) (c : Bool) : nextE f a b (wgB c) = wgB (c || refusesB f a b) := by
  unfold nextE wgB
  cases refusesB f a b <;> cases c <;> rfl
/-- a lane's fold up to j numbers, and whether one was refused -/
def laneV (f : Int) (l : List Int) (j : Nat) : Int := (laneL f (l.take j)).1.getLastD 0
def laneB (f : Int) (l : List Int) (j : Nat) : Bool := (laneL f (l.take j)).2
theorem laneV_one (f : Int) {l : List Int} (h : 0 < l.length) : laneV f l 1 = l.getD 0 0 ∧ laneB f l 1 = false := by
  cases l with
  | nil => simp at h
  | cons x l => exact ⟨rfl, rfl⟩
theorem lane_take (f : Int) {l : List Int} {j : Nat} (h1 : 1 ≤ j) (h2 : j < l.length) : laneL f (l.take (j + 1)) = ((laneL f (l.take j)).1 ++ [callV f (laneV f l j) (l.getD j 0)], laneB f l j || refusesB f (laneV f l j) (l.getD j 0)) := by
  have e : l.take (j + 1) = l.take j ++ [l.getD j 0] := by
    rw [List.take_succ_eq_append_getElem h2, List.getD_eq_getElem?_getD, List.getElem?_eq_getElem h2]; rfl
  rw [e]
  obtain ⟨a, ha, hs⟩ := laneL_step f (l := l.take j) (l.getD j 0) (by simp; omega)
  rw [hs]
  have hv : laneV f l j = a := by unfold laneV; rw [List.getLastD_eq_getLast?, ha]; rfl
  unfold callV laneB
  rw [hv]
theorem laneV_step (f : Int) {l : List Int} {j : Nat} (h1 : 1 ≤ j) (h2 : j < l.length) : laneV f l (j + 1) = callV f (laneV f l j) (l.getD j 0) ∧ laneB f l (j + 1) = (laneB f l j || refusesB f (laneV f l j) (l.getD j 0)) := by
  have h := lane_take f h1 h2
  constructor
  · show (laneL f (l.take (j + 1))).1.getLastD 0 = _
    rw [h]; simp
  · show (laneL f (l.take (j + 1))).2 = _
    rw [h]
theorem getD_in64 {d : List Int} (h : ∀ x ∈ d, In64 x) (k : Nat) : In64 (d.getD k 0) := by
  rw [List.getD_eq_getElem?_getD]
  cases hq : d[k]? with
  | none => exact In64.zero
  | some y => exact h y (List.mem_of_getElem? hq)
theorem laneV_in (f : Int) {l : List Int} (h : ∀ x ∈ l, In64 x) : ∀ j, 1 ≤ j → j ≤ l.length → In64 (laneV f l j)
  | 0, h1, _ => by omega
  | 1, _, h2 => by rw [(laneV_one f h2).1]; exact getD_in64 h 0
  | j + 2, _, h2 => by
    rw [(laneV_step f (by omega) (by omega : j + 1 < l.length)).1]
    exact callV_in64 (laneV_in f h (j + 1) (by omega) (by omega)) (getD_in64 h _)
def badL (f : Int) (lx : List (List Int)) : Bool := (lx.map (laneL f)).any (·.2)
theorem badL_succ (f : Int) {lx : List (List Int)} {k : Nat} (h : k < lx.length) : badL f (lx.take (k + 1)) = (badL f (lx.take k) || (laneL f lx[k]).2) := by
  unfold badL
  rw [List.take_succ_eq_append_getElem h, List.map_append, List.any_append]
  simp only [List.map_cons, List.map_nil, List.any_cons, List.any_nil, Bool.or_false]
theorem laneV_all (f : Int) (l : List Int) : laneV f l l.length = (laneL f l).1.getLastD 0 ∧ laneB f l l.length = (laneL f l).2 := by
  unfold laneV laneB; rw [List.take_length]; exact ⟨rfl, rfl⟩
/-- what the lanes' folds are, where none was refused -/
def foldL (f : Int) (s : List Int) (lx : List (List Int)) : ArrE := doneA (wgB (badL f lx)) s (lx.map fun l => (laneL f l).1.getLastD 0)
theorem foldL_eq (f : Int) (s : List Int) (lx : List (List Int)) : foldL f s lx = if (lx.map (laneL f)).any (·.2) then noA 11 else okA s (lx.map fun l => (laneL f l).1.getLastD 0) := by
  unfold foldL doneA wgB badL
  cases (lx.map (laneL f)).any (·.2) <;> rfl
theorem foldA_eq {f : Int} {s d : List Int} {lx : List (List Int)} (hr : right s d = true) (ht : takes f true = true) (hl : LaneF s d lx) (hs : s.length ≠ 0) :
    foldA f s d = if (size s.dropLast).2 ≠ 0 then noA 74 else if lastOf s = 0 then okA s.dropLast (List.replicate (size s.dropLast).1.toNat (unitF f).1) else foldL f s.dropLast lx := by
  unfold foldA
  rw [if_pos hr, if_pos ht, if_neg hs, foldL_eq, hl.eq]
/-- without the last side there are as many numbers as lanes -/
theorem fold_count {s d : List Int} {lx : List (List Int)} {n : Int} (hr : right s d = true) (hl : LaneF s d lx) (hs : s.length ≠ 0) (hn : size s.dropLast = (n, 0)) : 0 ≤ n ∧ n ≤ 65536 ∧ (lastOf s ≠ 0 → n = (lx.length : Int)) := by
  have g := size_good hn
  have hp := g.prod
  have h0 : 0 ≤ n := by rw [hp]; exact (prodL_le_pow g.side).1
  refine ⟨h0, g.le, fun hne => ?_⟩
  have hc := hl.count hne
  have hd := (right_good hr).2.prod
  rw [prodL_last (fun e => hs (by rw [e]; rfl)), ← hp] at hd
  rw [hd] at hc
  exact (Int.eq_of_mul_eq_mul_right hne hc).symm
theorem dropLast_take (s : List Int) : (s.drop 0).take (s.length - 1) = s.dropLast := by rw [List.drop_zero, List.dropLast_eq_take]
theorem last_getD {s : List Int} (h : s.length ≠ 0) : s.getD (s.length - 1) 0 = lastOf s := by
  unfold lastOf
  rw [List.getLast?_eq_getElem?, List.getD_eq_getElem?_getD, List.getElem?_eq_getElem (by omega)]
  rfl
theorem lanes_in {lx : List (List Int)} {d : List Int} (hf : lx.flatten = d) (hd : ∀ x ∈ d, In64 x) : ∀ l ∈ lx, ∀ x ∈ l, In64 x := fun l hl x hx => hd x (by rw [← hf]; exact List.mem_flatten.2 ⟨l, hl, hx⟩)
end Go.Proofs.Ytmjkncmpanhgjaa

namespace Go.Proofs.Ytmjkncmpanhgjaa
set_option maxRecDepth 100000
open Go.RowKit
set_option linter.unusedVariables false
set_option linter.unusedSimpArgs false

/-! prim.Fold. -/
theorem One.kb {w W W' : World} {v u : Value} {S : Nat → Prop} (h : One w W v u) (hk : KB S W W') (hS : ∀ g, S g → w.heap.size + 1 < g) : One w W' v u :=
  ⟨(hk.block _ (Array.getElem?_eq_some_iff.1 h.x).1 (fun e => by have := hS _ e; omega)).trans h.x, (hk.block _ (Array.getElem?_eq_some_iff.1 h.r).1 (fun e => by have := hS _ e; omega)).trans h.r,
    h.b.trans (hk.below h.b.size (fun g e => by have := hS _ e; omega))⟩
theorem RowR.kb {B : Nat} {w w' : World} {v : Value} {xss : List (List Int)} {S : Nat → Prop} (h : RowR B w v xss) (hk : KB S w w') (hS : ∀ g, S g → g < B) : RowR B w' v xss := by
  obtain ⟨vs, hown, hin⟩ := h
  refine ⟨vs, hk.row hown (fun g e hs => ?_), fun i hi => ?_⟩
  · rcases hown.2 with ⟨h0, _⟩ | ⟨g', cap, cur, e2, hB, _⟩
    · rw [h0] at e; cases e
    · rw [e2] at e
      have e3 : g' = g := by injection e
      have := hS _ hs
      omega
  · obtain ⟨u, hu, hr, hap⟩ := hin i hi
    exact ⟨u, hu, hk.row hr (fun g e hs => by have := hS _ hs; have := (hr.lt g e).1; omega), hap⟩
set_option maxHeartbeats 4000000 in
theorem pf_bad (w : World) (f : Int) (v u : Value) (s d : List Int) (hs : SlA w v s) (hd : SlA w u d) (hr : right s d = false) :
    Calls Try.prog 19 #[.int .u8 f, .agg #[v, u]] w fun e w' => RetArr w.heap.size (noA 60) e w' ∧ Below w.heap.size w w' := by
  obtain ⟨a0, c0, rfl, h01, h02, -, h04, -⟩ := hs
  obtain ⟨a1, c1, rfl, h11, h12, -, h14, hin⟩ := hd
  have h02' : c0 ≤ 9223372036854775807 := h02
  have h12' : c1 ≤ 9223372036854775807 := h12
  have HM : Hid (s.length ≤ maxLen) := Lib.hid (Nat.le_trans h01 h02)
  have HRT := Lib.hid hr; have H0 := Lib.hid h04; have H1 := Lib.hid h14; have HIN := Lib.hid hin
  have HO := Lib.hid (One.mk0 w (.slice a0 s.length c0) (.slice a1 d.length c1))
  obtain ⟨r, HRR⟩ : ∃ r, Hid ((noA 60) = r) := ⟨_, Lib.hid rfl⟩
  rw [HRR.out]
  clear hr h04 h14 h02 h12 hin
  go_enter Try.func19, Try.ntmps19
  go_upto_region 1 with fail
  refine gen_worldA (fun W => One w W (.slice a0 s.length c0) (.slice a1 d.length c1)) HO.out ?_
  rintro W hO
  have hq := right_any W a0 a1 c0 c1 s d HM.out (H0.out.below hO.b (Nat.le_refl _))
  rw [HRT.out] at hq
  have HQ := Lib.hid hq; have HO1 := Lib.hid hO
  have x0 := hO.c0; have x1 := hO.c1
  clear hq hO
  go_wp2_with fail
  refine HQ.out.mono ?_
  rintro e W1 ⟨rfl, hb1⟩
  have HO2 := Lib.hid (HO1.out.next hb1)
  have hq := fault_at W1 w.heap.size HO2.out.b.size 60 r HRR.out
  clear HQ
  have HQ := Lib.hid hq; have HR := Lib.hid HO2.out.r; have HB := Lib.hid HO2.out.b
  clear hq HO hb1 HO1 x0 x1
  go_wp2_with fail
  refine (Hid.out HQ).mono ?_
  rintro e w9 ⟨⟨v9, u9, rfl, hv9, hu9, hap9⟩, hb9⟩
  have hR9 := block_below (Hid.out HR) hb9
  have HV9 := Lib.hid hv9; have HU9 := Lib.hid hu9; have HAP9 := Lib.hid hap9; have HR9 := Lib.hid hR9
  have HB9 := Lib.hid (bNext hb9 (Hid.out HB))
  obtain ⟨a9, c9, rfl, -, -⟩ := RowI.slice hv9
  obtain ⟨a8, c8, rfl, -, -⟩ := RowI.slice hu9
  have g0 := cell_of_row w9 _ 0 _ _ _ hR9; have g1 := cell_of_row w9 _ 1 _ _ _ hR9
  have z0 := frozen_of_row w9 _ 0 _ _ hR9; have z1 := frozen_of_row w9 _ 1 _ _ hR9
  clear hv9 hu9 hap9 hb9 hR9
  go_wp2_with fail
  exact fin_arr rfl rfl rfl HR9.out HV9.out HU9.out HAP9.out HB9.out (by omega)
set_option maxHeartbeats 4000000 in
theorem pf_no (w : World) (f : Int) (v u : Value) (s d : List Int) (hs : SlA w v s) (hd : SlA w u d) (hr : right s d = true) (ht : takes f true = false) :
    Calls Try.prog 19 #[.int .u8 f, .agg #[v, u]] w fun e w' => RetArr w.heap.size (noA 70) e w' ∧ Below w.heap.size w w' := by
  have HT := Lib.hid (fun W => takes_at W f true false ht)
  clear ht
  obtain ⟨a0, c0, rfl, h01, h02, -, h04, -⟩ := hs
  obtain ⟨a1, c1, rfl, h11, h12, -, h14, hin⟩ := hd
  have h02' : c0 ≤ 9223372036854775807 := h02
  have h12' : c1 ≤ 9223372036854775807 := h12
  have HM : Hid (s.length ≤ maxLen) := Lib.hid (Nat.le_trans h01 h02)
  have HRT := Lib.hid hr; have H0 := Lib.hid h04; have H1 := Lib.hid h14; have HIN := Lib.hid hin
  have HO := Lib.hid (One.mk0 w (.slice a0 s.length c0) (.slice a1 d.length c1))
  obtain ⟨r, HRR⟩ : ∃ r, Hid ((noA 70) = r) := ⟨_, Lib.hid rfl⟩
  rw [HRR.out]
  clear hr h04 h14 h02 h12 hin
  go_enter Try.func19, Try.ntmps19
  go_upto_region 1 with fail
  refine gen_worldA (fun W => One w W (.slice a0 s.length c0) (.slice a1 d.length c1)) HO.out ?_
  rintro W hO
  have hq := right_any W a0 a1 c0 c1 s d HM.out (H0.out.below hO.b (Nat.le_refl _))
  rw [HRT.out] at hq
  have HQ := Lib.hid hq; have HO1 := Lib.hid hO
  have x0 := hO.c0; have x1 := hO.c1
  clear hq hO
  go_wp2_with fail
  refine HQ.out.mono ?_
  rintro e W1 ⟨rfl, hb1⟩
  have HO2 := Lib.hid (HO1.out.next hb1)
  clear x0 x1
  have x0 := HO2.out.c0; have x1 := HO2.out.c1
  clear hb1 HQ HO1
  have HQ0 := Lib.hid (HT.out W1)
  go_wp2_with fail
  refine HQ0.out.mono ?_
  rintro e W2 ⟨rfl, rfl⟩
  clear HQ0 HT HO
  have hq := fault_at W1 w.heap.size HO2.out.b.size 70 r HRR.out
  have HQ := Lib.hid hq; have HR := Lib.hid HO2.out.r; have HB := Lib.hid HO2.out.b
  clear hq
  go_wp2_with fail
  refine (Hid.out HQ).mono ?_
  rintro e w9 ⟨⟨v9, u9, rfl, hv9, hu9, hap9⟩, hb9⟩
  have hR9 := block_below (Hid.out HR) hb9
  have HV9 := Lib.hid hv9; have HU9 := Lib.hid hu9; have HAP9 := Lib.hid hap9; have HR9 := Lib.hid hR9
  have HB9 := Lib.hid (bNext hb9 (Hid.out HB))
  obtain ⟨a9, c9, rfl, -, -⟩ := RowI.slice hv9
  obtain ⟨a8, c8, rfl, -, -⟩ := RowI.slice hu9
  have g0 := cell_of_row w9 _ 0 _ _ _ hR9; have g1 := cell_of_row w9 _ 1 _ _ _ hR9
  have z0 := frozen_of_row w9 _ 0 _ _ hR9; have z1 := frozen_of_row w9 _ 1 _ _ hR9
  clear hv9 hu9 hap9 hb9 hR9
  go_wp2_with fail
  exact fin_arr rfl rfl rfl HR9.out HV9.out HU9.out HAP9.out HB9.out (by omega)
set_option maxHeartbeats 4000000 in
theorem pf_zero (w : World) (f : Int) (v u : Value) (s d : List Int) (hs : SlA w v s) (hd : SlA w u d) (hr : right s d = true) (ht : takes f true = true) (hs0 : s.length = 0) :
    Calls Try.prog 19 #[.int .u8 f, .agg #[v, u]] w fun e w' => RetArr w.heap.size (okA [] d) e w' ∧ Below w.heap.size w w' := by
  have HT := Lib.hid (fun W => takes_at W f true true ht)
  have hd6 := (right_good hr).2.le
  have hs1 : ((s.length : Int) == 0) = true := by rw [beq_iff_eq]; omega
  clear ht hs0
  obtain ⟨a0, c0, rfl, h01, h02, -, h04, -⟩ := hs
  obtain ⟨a1, c1, rfl, h11, h12, -, h14, hin⟩ := hd
  have h02' : c0 ≤ 9223372036854775807 := h02
  have h12' : c1 ≤ 9223372036854775807 := h12
  have HM : Hid (s.length ≤ maxLen) := Lib.hid (Nat.le_trans h01 h02)
  have HRT := Lib.hid hr; have H0 := Lib.hid h04; have H1 := Lib.hid h14; have HIN := Lib.hid hin
  have HO := Lib.hid (One.mk0 w (.slice a0 s.length c0) (.slice a1 d.length c1))
  obtain ⟨r, HRR⟩ : ∃ r, Hid ((okA [] d) = r) := ⟨_, Lib.hid rfl⟩
  rw [HRR.out]
  clear hr h04 h14 h02 h12 hin
  go_enter Try.func19, Try.ntmps19
  go_upto_region 1 with fail
  refine gen_worldA (fun W => One w W (.slice a0 s.length c0) (.slice a1 d.length c1)) HO.out ?_
  rintro W hO
  have hq := right_any W a0 a1 c0 c1 s d HM.out (H0.out.below hO.b (Nat.le_refl _))
  rw [HRT.out] at hq
  have HQ := Lib.hid hq; have HO1 := Lib.hid hO
  have x0 := hO.c0; have x1 := hO.c1
  clear hq hO
  go_wp2_with fail
  refine HQ.out.mono ?_
  rintro e W1 ⟨rfl, hb1⟩
  have HO2 := Lib.hid (HO1.out.next hb1)
  clear x0 x1
  have x0 := HO2.out.c0; have x1 := HO2.out.c1
  clear hb1 HQ HO1
  have HQ0 := Lib.hid (HT.out W1)
  go_wp2_with fail
  refine HQ0.out.mono ?_
  rintro e W2 ⟨rfl, rfl⟩
  clear HQ0 HT HO
  have hq := clone_any W1 a1 c1 d (by omega) (H1.out.below HO2.out.b (Nat.le_refl _))
  have HQ := Lib.hid hq
  clear hq
  go_wp2_with fail
  refine HQ.out.mono ?_
  rintro e W3 ⟨⟨v3, rfl, hv3⟩, hb3⟩
  have HO3 := Lib.hid (HO2.out.next hb3)
  have hv3 := hv3.mono HO2.out.b.size
  have hq := good_any W3 w.heap.size HO3.out.b.size none 0 0 [] d v3 rfl (by simp) (IntsAt.nil _ _ _) hv3
  rw [HRR.out] at hq
  clear HQ
  have HQ := Lib.hid hq; have HR := Lib.hid HO3.out.r; have HB := Lib.hid HO3.out.b
  obtain ⟨a9, c9, rfl, -, -⟩ := hv3.slice
  clear hq hv3 hb3 HO2 x0 x1
  go_wp2_with fail
  refine (Hid.out HQ).mono ?_
  rintro e w9 ⟨⟨v9, u9, rfl, hv9, hu9, hap9⟩, hb9⟩
  have hR9 := block_below (Hid.out HR) hb9
  have HV9 := Lib.hid hv9; have HU9 := Lib.hid hu9; have HAP9 := Lib.hid hap9; have HR9 := Lib.hid hR9
  have HB9 := Lib.hid (bNext hb9 (Hid.out HB))
  obtain ⟨a9, c9, rfl, -, -⟩ := RowI.slice hv9
  obtain ⟨a8, c8, rfl, -, -⟩ := RowI.slice hu9
  have g0 := cell_of_row w9 _ 0 _ _ _ hR9; have g1 := cell_of_row w9 _ 1 _ _ _ hR9
  have z0 := frozen_of_row w9 _ 0 _ _ hR9; have z1 := frozen_of_row w9 _ 1 _ _ hR9
  clear hv9 hu9 hap9 hb9 hR9
  go_wp2_with fail
  exact fin_arr rfl rfl rfl HR9.out HV9.out HU9.out HAP9.out HB9.out (by omega)
set_option maxHeartbeats 4000000 in
theorem pf_large (w : World) (f : Int) (v u : Value) (s d : List Int) (hs : SlA w v s) (hd : SlA w u d) (hr : right s d = true) (ht : takes f true = true) (hs0 : s.length ≠ 0) (her : (size s.dropLast).2 ≠ 0) :
    Calls Try.prog 19 #[.int .u8 f, .agg #[v, u]] w fun e w' => RetArr w.heap.size (noA 74) e w' ∧ Below w.heap.size w w' := by
  have HT := Lib.hid (fun W => takes_at W f true true ht)
  have hs4 := (right_good hr).2.len
  have hs1 : ((s.length : Int) == 0) = false := by rw [beq_eq_false_iff_ne]; omega
  have hsp : 0 < s.length := by omega
  obtain ⟨nz, er, hsz⟩ : ∃ nz er, size s.dropLast = (nz, er) := ⟨_, _, rfl⟩
  rw [hsz] at her
  have her' : (er != 0) = true := by simpa using her
  have HSZ := Lib.hid hsz
  clear ht hs0 her hsz
  obtain ⟨a0, c0, rfl, h01, h02, -, h04, -⟩ := hs
  obtain ⟨a1, c1, rfl, h11, h12, -, h14, hin⟩ := hd
  have h02' : c0 ≤ 9223372036854775807 := h02
  have h12' : c1 ≤ 9223372036854775807 := h12
  have HM : Hid (s.length ≤ maxLen) := Lib.hid (Nat.le_trans h01 h02)
  have HRT := Lib.hid hr; have H0 := Lib.hid h04; have H1 := Lib.hid h14; have HIN := Lib.hid hin
  have HO := Lib.hid (One.mk0 w (.slice a0 s.length c0) (.slice a1 d.length c1))
  obtain ⟨r, HRR⟩ : ∃ r, Hid ((noA 74) = r) := ⟨_, Lib.hid rfl⟩
  rw [HRR.out]
  clear hr h04 h14 h02 h12 hin
  go_enter Try.func19, Try.ntmps19
  go_upto_region 1 with fail
  refine gen_worldA (fun W => One w W (.slice a0 s.length c0) (.slice a1 d.length c1)) HO.out ?_
  rintro W hO
  have hq := right_any W a0 a1 c0 c1 s d HM.out (H0.out.below hO.b (Nat.le_refl _))
  rw [HRT.out] at hq
  have HQ := Lib.hid hq; have HO1 := Lib.hid hO
  have x0 := hO.c0; have x1 := hO.c1
  clear hq hO
  go_wp2_with fail
  refine HQ.out.mono ?_
  rintro e W1 ⟨rfl, hb1⟩
  have HO2 := Lib.hid (HO1.out.next hb1)
  clear x0 x1
  have x0 := HO2.out.c0; have x1 := HO2.out.c1
  clear hb1 HQ HO1
  have HQ0 := Lib.hid (HT.out W1)
  go_wp2_with fail
  refine HQ0.out.mono ?_
  rintro e W2 ⟨rfl, rfl⟩
  clear HQ0 HT HO
  have hsl : ∀ W, (Instr.sliceAt 22 (.slice a0 s.length c0) none (some (.int .i64 ((s.length : Int) - 1))) none).run Try.prog W = .ok (.slice (subA a0 c0 0) (s.length - 1) c0) W := fun W => by
    have := slice_hi W a0 s.length c0 .i64 ((s.length : Int) - 1) (by omega) (by omega)
    rwa [show ((s.length : Int) - 1).toNat = s.length - 1 from by omega] at this
  have hcut : IntsAt .i64 W1 (subA a0 c0 0) s.dropLast := by
    have := (H0.out.below HO2.out.b (Nat.le_refl _)).cut (l := 0) (n := s.length - 1) (m := c0) h01
    rwa [dropLast_take] at this
  have hdl : s.dropLast.length = s.length - 1 := by simp
  have hq := clone_n W1 (subA a0 c0 0) (s.length - 1) c0 s.dropLast hdl.symm (by omega) hcut
  have HQ := Lib.hid hq; have HDL := Lib.hid hdl
  generalize subA a0 c0 0 = a7 at hsl HQ
  clear hq hcut hdl
  go_wp2_with fail
  refine HQ.out.mono ?_
  rintro e W3 ⟨⟨v7, rfl, hv7⟩, hb3⟩
  have HO3 := Lib.hid (HO2.out.next hb3)
  have hv7 := hv7.mono HO2.out.b.size
  obtain ⟨a7', c7, e7, -, hi7⟩ := hv7.slice
  rw [HDL.out] at e7
  subst e7
  have hq := size_any W3 a7' c7 s.dropLast (by rw [HDL.out]; unfold maxLen; omega) hi7
  rw [HDL.out, HSZ.out] at hq
  clear HQ
  have HQ := Lib.hid hq; have HV7 := Lib.hid hv7
  clear hq hv7 hb3 hi7 HO2 x0 x1 hsl
  go_wp2_with fail
  refine HQ.out.mono ?_
  rintro e W4 ⟨rfl, hb4⟩
  have HO4 := Lib.hid (HO3.out.next hb4); have HV8 := Lib.hid (HV7.out.below hb4)
  have x0 := HO4.out.c0; have x1 := HO4.out.c1
  clear HQ HV7 hb4 HO3
  unfold two
  have hq := fault_at W4 w.heap.size HO4.out.b.size 74 r HRR.out
  have HQ := Lib.hid hq; have HR := Lib.hid HO4.out.r; have HB := Lib.hid HO4.out.b
  clear hq
  go_wp2_with fail
  refine (Hid.out HQ).mono ?_
  rintro e w9 ⟨⟨v9, u9, rfl, hv9, hu9, hap9⟩, hb9⟩
  have hR9 := block_below (Hid.out HR) hb9
  have HV9 := Lib.hid hv9; have HU9 := Lib.hid hu9; have HAP9 := Lib.hid hap9; have HR9 := Lib.hid hR9
  have HB9 := Lib.hid (bNext hb9 (Hid.out HB))
  obtain ⟨a9, c9, rfl, -, -⟩ := RowI.slice hv9
  obtain ⟨a8, c8, rfl, -, -⟩ := RowI.slice hu9
  have g0 := cell_of_row w9 _ 0 _ _ _ hR9; have g1 := cell_of_row w9 _ 1 _ _ _ hR9
  have z0 := frozen_of_row w9 _ 0 _ _ hR9; have z1 := frozen_of_row w9 _ 1 _ _ hR9
  clear hv9 hu9 hap9 hb9 hR9
  go_wp2_with fail
  exact fin_arr rfl rfl rfl HR9.out HV9.out HU9.out HAP9.out HB9.out (by omega)
set_option maxHeartbeats 8000000 in
theorem pf_unit (w : World) (f : Int) (v u : Value) (s d : List Int) (hs : SlA w v s) (hd : SlA w u d) (hr : right s d = true) (ht : takes f true = true) (hs0 : s.length ≠ 0) (n : Nat) (hn : n ≤ 65536) (hsz : size s.dropLast = ((n : Int), 0)) (hl0 : lastOf s = 0) :
    Calls Try.prog 19 #[.int .u8 f, .agg #[v, u]] w fun e w' => RetArr w.heap.size (okA s.dropLast (List.replicate n (unitF f).1)) e w' ∧ Below w.heap.size w w' := by
  have HT := Lib.hid (fun W => takes_at W f true true ht)
  have hs4 := (right_good hr).2.len
  have hs1 : ((s.length : Int) == 0) = false := by rw [beq_eq_false_iff_ne]; omega
  have hsp : 0 < s.length := by omega
  have HSZ := Lib.hid hsz
  have HLS := Lib.hid (last_getD hs0)
  have HL0 := Lib.hid hl0
  have HU := Lib.hid (fun W => unit_at W f (unitF f).1 (unitF f).2 rfl)
  generalize (unitF f).1 = un at HU
  generalize (unitF f).2 = ub at HU
  clear ht hs0 hsz hl0
  obtain ⟨a0, c0, rfl, h01, h02, -, h04, -⟩ := hs
  obtain ⟨a1, c1, rfl, h11, h12, -, h14, hin⟩ := hd
  have h02' : c0 ≤ 9223372036854775807 := h02
  have h12' : c1 ≤ 9223372036854775807 := h12
  have HM : Hid (s.length ≤ maxLen) := Lib.hid (Nat.le_trans h01 h02)
  have HRT := Lib.hid hr; have H0 := Lib.hid h04; have H1 := Lib.hid h14; have HIN := Lib.hid hin
  have HO := Lib.hid (One.mk0 w (.slice a0 s.length c0) (.slice a1 d.length c1))
  obtain ⟨r, HRR⟩ : ∃ r, Hid ((okA s.dropLast (List.replicate n un)) = r) := ⟨_, Lib.hid rfl⟩
  rw [HRR.out]
  clear hr h04 h14 h02 h12 hin
  go_enter Try.func19, Try.ntmps19
  go_upto_region 1 with fail
  refine gen_worldA (fun W => One w W (.slice a0 s.length c0) (.slice a1 d.length c1)) HO.out ?_
  rintro W hO
  have hq := right_any W a0 a1 c0 c1 s d HM.out (H0.out.below hO.b (Nat.le_refl _))
  rw [HRT.out] at hq
  have HQ := Lib.hid hq; have HO1 := Lib.hid hO
  have x0 := hO.c0; have x1 := hO.c1
  clear hq hO
  go_wp2_with fail
  refine HQ.out.mono ?_
  rintro e W1 ⟨rfl, hb1⟩
  have HO2 := Lib.hid (HO1.out.next hb1)
  clear x0 x1
  have x0 := HO2.out.c0; have x1 := HO2.out.c1
  clear hb1 HQ HO1
  have HQ0 := Lib.hid (HT.out W1)
  go_wp2_with fail
  refine HQ0.out.mono ?_
  rintro e W2 ⟨rfl, rfl⟩
  clear HQ0 HT HO
  have hsl : ∀ W, (Instr.sliceAt 22 (.slice a0 s.length c0) none (some (.int .i64 ((s.length : Int) - 1))) none).run Try.prog W = .ok (.slice (subA a0 c0 0) (s.length - 1) c0) W := fun W => by
    have := slice_hi W a0 s.length c0 .i64 ((s.length : Int) - 1) (by omega) (by omega)
    rwa [show ((s.length : Int) - 1).toNat = s.length - 1 from by omega] at this
  have hcut : IntsAt .i64 W1 (subA a0 c0 0) s.dropLast := by
    have := (H0.out.below HO2.out.b (Nat.le_refl _)).cut (l := 0) (n := s.length - 1) (m := c0) h01
    rwa [dropLast_take] at this
  have hdl : s.dropLast.length = s.length - 1 := by simp
  have hq := clone_n W1 (subA a0 c0 0) (s.length - 1) c0 s.dropLast hdl.symm (by omega) hcut
  have HQ := Lib.hid hq; have HDL := Lib.hid hdl
  generalize subA a0 c0 0 = a7 at hsl HQ
  clear hq hcut hdl
  go_wp2_with fail
  refine HQ.out.mono ?_
  rintro e W3 ⟨⟨v7, rfl, hv7⟩, hb3⟩
  have HO3 := Lib.hid (HO2.out.next hb3)
  have hv7 := hv7.mono HO2.out.b.size
  obtain ⟨a7', c7, e7, -, hi7⟩ := hv7.slice
  rw [HDL.out] at e7
  subst e7
  have hq := size_any W3 a7' c7 s.dropLast (by rw [HDL.out]; unfold maxLen; omega) hi7
  rw [HDL.out, HSZ.out] at hq
  clear HQ
  have HQ := Lib.hid hq; have HV7 := Lib.hid hv7
  clear hq hv7 hb3 hi7 HO2 x0 x1 hsl
  go_wp2_with fail
  refine HQ.out.mono ?_
  rintro e W4 ⟨rfl, hb4⟩
  have HO4 := Lib.hid (HO3.out.next hb4); have HV8 := Lib.hid (HV7.out.below hb4)
  have x0 := HO4.out.c0; have x1 := HO4.out.c1
  clear HQ HV7 hb4 HO3
  unfold two
  have HQ1 := Lib.hid (of_any W4 f)
  go_wp2_with fail
  refine HQ1.out.mono ?_
  rintro e W5 ⟨rfl, hp5, hb5⟩
  have HO5 := Lib.hid (HO4.out.next hb5); have HV9 := Lib.hid (HV8.out.below hb5)
  have hP : w.heap.size + 1 < W4.heap.size + 1 := by have := HO4.out.lt; omega
  obtain ⟨P, hPe⟩ : ∃ P, W4.heap.size + 1 = P := ⟨_, rfl⟩
  obtain ⟨F, hFe⟩ : ∃ F, W4.heap.size = F := ⟨_, rfl⟩
  rw [hPe] at hp5 hP ⊢
  rw [hFe] at hp5
  have HPA := Lib.hid hp5
  have HVP : Hid (∀ g, (Value.slice a7' (s.length - 1) c7).ownBlock = some g → g < P) := Lib.hid fun g e => by have := (HV8.out.lt g e).2; omega
  have hsz5 := HO5.out.b.size
  clear HQ1 hp5 hb5 HO4 HV8 hPe hFe x0 x1
  obtain ⟨i0, hi, hz0, hz1, hz2⟩ := info_parts Try.info2
  have Hi := Lib.hid hi; have Hz0 := Lib.hid hz0; have Hz1 := Lib.hid hz1; have Hz2 := Lib.hid hz2; clear hi hz0 hz1 hz2
  have x0 := HO5.out.c0
  go_wp2_with (at_make; refine wpList_make_full _ rfl _ _ 22 rfl w.heap.size 2 i0 (.int .i64 0) 1 Try.underlying22 Hi.out Hz0.out Hz1.out _ _ _ _ n rfl rfl rfl rfl ?c2 ?c3 ?c4 ?_)
  case c2 => rw [Hz2.out]; omega
  case c3 => unfold maxLen; omega
  case c4 => exact hsz5
  intro W6 hown hgrow
  have hb6 : Below W5.heap.size W5 W6 := (Below.refl _ _).grown hgrow (Nat.le_refl _) (by simp)
  have HO6 := Lib.hid (HO5.out.next hb6)
  have HROW := Lib.hid (made_ints hown)
  have HPB := Lib.hid (HPA.out.below hb6); have HVA := Lib.hid (HV9.out.below hb6)
  have hPG : P < W5.heap.size := HPA.out.lt
  obtain ⟨G, hG⟩ : ∃ G, W5.heap.size = G := ⟨_, rfl⟩
  rw [hG] at HROW hPG ⊢
  have hGW : G < W6.heap.size := by have := (Array.getElem?_eq_some_iff.1 (own_typed HROW.out rfl).choose_spec).1; exact this
  clear hown hgrow HO5 hb6 HPA HV9 hG x0 hsz5
  have x0 := HO6.out.c0
  obtain ⟨b0, o0, rfl, hcl⟩ := H0.out.atD (k := s.length - 1) (by omega)
  rw [HLS.out] at hcl
  have hcl := keepCell HO6.out.b hcl
  have els : (s.length : Int) - 1 = ((s.length - 1 : Nat) : Int) := by omega
  obtain ⟨sl, hsl⟩ : ∃ sl, s.length - 1 = sl := ⟨_, rfl⟩
  rw [hsl] at hcl els HVA HVP ⊢
  have hsl0 : (sl : Int) < (s.length : Int) := by omega
  have HSLE := Lib.hid hsl
  clear hsl
  rw [HL0.out] at hcl
  have HQU := Lib.hid (HU.out W6)
  go_wp2_with fail
  refine HQU.out.mono ?_
  rintro e W7 ⟨rfl, n7, rfl⟩
  have HO7 := Lib.hid (HO6.out.next (Below.drewN W6 n7)); have HPC := Lib.hid (HPB.out.below (Below.drewN W6 n7)); have HVB := Lib.hid (HVA.out.below (Below.drewN W6 n7)); have HRW := Lib.hid (HROW.out.drewN n7)
  clear HQU HO6 HPB HVA HROW hcl x0 els hsl0
  go_wp2_with fail
  go_loopw [78] (fun i wr => ∃ k : Nat, k ≤ n ∧ i = .int .i64 k ∧ One w wr (.slice (some ⟨b0, o0, none⟩) s.length c0) (.slice a1 d.length c1) ∧ PairAt wr P F f 0 ∧ RowI w.heap.size wr (.slice a7' sl c7) s.dropLast ∧
    RowI w.heap.size wr (.slice (some ⟨G, 0, none⟩) n n) ((List.range k).map (fun _ => un) ++ List.replicate (n - k) 0)) (fun i _ => n - (intOf i).toNat)
  case atStart => exact ⟨0, by omega, rfl, HO7.out, HPC.out, HVB.out, by simpa using HRW.out⟩
  case round =>
    obtain ⟨k, hk, rfl, hO, hpa, hv, hrw⟩ := hrel
    clear HO7 HPC HVB HRW
    by_cases hlt : k < n
    · have hf := hrw.fr k
      have hcc := hrw.at (k := k) (by rw [rep_len _ (by omega)]; exact hlt)
      have hset := hrw.set k un
      rw [rep_step (fun _ => un) hlt] at hset
      have hkb : KB (fun g => g = G) wr (wr.setCell ⟨G, k, none⟩ (.int .i64 un)) := (KB.refl (fun g => g = G) wr).setCell (p := ⟨G, k, none⟩) (fun _ => rfl) _
      have HS := Lib.hid hset; have HOS := Lib.hid (hO.kb hkb (fun g e => by rw [e]; omega))
      have HPS : Hid (PairAt (wr.setCell ⟨G, k, none⟩ (.int .i64 un)) P F f 0) := Lib.hid ⟨block_other hpa.p (by show G ≠ P; omega) _, block_other hpa.f (fun e => by
        have h1 := hpa.f
        obtain ⟨cur, h2⟩ := own_typed hrw rfl
        rw [← show G = F from e, h2] at h1
        simp at h1) _⟩
      have HVS := Lib.hid (own_other hv (p := ⟨G, k, none⟩) (fun g e => by have := HVP.out g e; show g ≠ G; omega) (.int .i64 un))
      clear hrw hO hset hkb hpa hv
      go_wp2_with fail
      go_roundw
      case rel => exact ⟨k + 1, by omega, by go_num, HOS.out, HPS.out, HVS.out, HS.out⟩
      case measure => simp [intOf]; omega
    · obtain rfl : k = n := by omega
      have hrep : (List.range k).map (fun _ => un) = List.replicate k un := by
        apply List.ext_getElem
        · simp
        · intro i h1 h2; simp
      rw [Nat.sub_self, List.replicate_zero, List.append_nil, hrep] at hrw
      have hap : Apart (.slice a7' sl c7) (.slice (some ⟨G, 0, none⟩) k k) := by
        cases hq : (Value.slice a7' sl c7).ownBlock with
        | none => exact .inl hq
        | some g => exact .inr (fun e => by
            have h1 := HVP.out g hq
            rw [hq] at e
            have h2 : g = G := by injection e
            omega)
      have hq := done_any wr w.heap.size P F f 0 hpa s.dropLast (List.replicate k un) _ _ hO.b.size hv hrw hap
      rw [show doneA 0 s.dropLast (List.replicate k un) = r from HRR.out] at hq
      have HQ := Lib.hid hq; have HR := Lib.hid hO.r; have HB := Lib.hid hO.b
      clear hq hO hrw hlt hpa hv hap hrep
      go_wp2_with fail
      refine (Hid.out HQ).mono ?_
      rintro e w9 ⟨⟨v9, u9, rfl, hv9, hu9, hap9⟩, hb9⟩
      have hR9 := block_below (Hid.out HR) hb9
      have HV9 := Lib.hid hv9; have HU9 := Lib.hid hu9; have HAP9 := Lib.hid hap9; have HR9 := Lib.hid hR9
      have HB9 := Lib.hid (bNext hb9 (Hid.out HB))
      obtain ⟨a9, c9, rfl, -, -⟩ := RowI.slice hv9
      obtain ⟨a8, c8, rfl, -, -⟩ := RowI.slice hu9
      have g0 := cell_of_row w9 _ 0 _ _ _ hR9; have g1 := cell_of_row w9 _ 1 _ _ _ hR9
      have z0 := frozen_of_row w9 _ 0 _ _ hR9; have z1 := frozen_of_row w9 _ 1 _ _ hR9
      clear hv9 hu9 hap9 hb9 hR9
      go_wp2_with fail
      exact fin_arr rfl rfl rfl HR9.out HV9.out HU9.out HAP9.out HB9.out (by omega)
end Go.Proofs.Ytmjkncmpanhgjaa
