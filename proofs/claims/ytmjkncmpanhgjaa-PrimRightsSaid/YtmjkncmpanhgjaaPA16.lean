import Derived.Test.YtmjkncmpanhgjaaPA15
namespace Go.Proofs.Ytmjkncmpanhgjaa
set_option maxRecDepth 100000
open Go.RowKit
set_option linter.unusedVariables false
set_option linter.unusedSimpArgs false

/-! Two arrays in their boxes; prim.rho. -/
structure Duo (w W : World) (v u v2 u2 : Value) : Prop where
  x : W.heap[w.heap.size]? = some (.cells #[v, u] 24 (0, 0))
  y : W.heap[w.heap.size + 1]? = some (.cells #[v2, u2] 24 (0, 0))
  r : W.heap[w.heap.size + 2]? = some (.cells #[.slice none 0 0, .slice none 0 0] 24 (0, 0))
  b : Below w.heap.size w W
theorem Duo.mk0 (w : World) (v u v2 u2 : Value) : Duo w (((w.alloc (.cells #[v, u] 24)).alloc (.cells #[v2, u2] 24)).alloc (.cells #[.slice none 0 0, .slice none 0 0] 24)) v u v2 u2 :=
  ⟨block_alloc (heap_two1 _ _ _) _, block_alloc (heap_two2 _ _ _) _, by
    have := World.alloc_heap_new ((w.alloc (.cells #[v, u] 24)).alloc (.cells #[v2, u2] 24)) (.cells #[.slice none 0 0, .slice none 0 0] 24)
    simpa using this, (Below.two w _ _).alloc (by simp; omega) _⟩
theorem Duo.next {w W W' : World} {v u v2 u2 : Value} (h : Duo w W v u v2 u2) (hb : Below W.heap.size W W') : Duo w W' v u v2 u2 := ⟨block_below h.x hb, block_below h.y hb, block_below h.r hb, bNext hb h.b⟩
theorem Duo.c0 {w W : World} {v u v2 u2 : Value} (h : Duo w W v u v2 u2) : W.cell? ⟨w.heap.size, 0, none⟩ = some v := cell_of_row W _ 0 _ _ _ h.x
theorem Duo.c1 {w W : World} {v u v2 u2 : Value} (h : Duo w W v u v2 u2) : W.cell? ⟨w.heap.size, 1, none⟩ = some u := cell_of_row W _ 1 _ _ _ h.x
theorem Duo.c2 {w W : World} {v u v2 u2 : Value} (h : Duo w W v u v2 u2) : W.cell? ⟨w.heap.size + 1, 0, none⟩ = some v2 := cell_of_row W _ 0 _ _ _ h.y
theorem Duo.c3 {w W : World} {v u v2 u2 : Value} (h : Duo w W v u v2 u2) : W.cell? ⟨w.heap.size + 1, 1, none⟩ = some u2 := cell_of_row W _ 1 _ _ _ h.y
theorem Duo.lt {w W : World} {v u v2 u2 : Value} (h : Duo w W v u v2 u2) : w.heap.size + 2 < W.heap.size := (Array.getElem?_eq_some_iff.1 h.r).1
theorem Duo.kt {w W W' : World} {v u v2 u2 : Value} (h : Duo w W v u v2 u2) (hb : Below w.heap.size w W') (hk : KeepTy 24 W W') : Duo w W' v u v2 u2 := ⟨hk _ _ h.x, hk _ _ h.y, hk _ _ h.r, hb⟩
theorem Duo.app {w W W1 W' : World} {v u v2 u2 x : Value} {xs : List Int} (h : Duo w W v u v2 u2) (hb : Below W.heap.size W W1) (hr : RowI w.heap.size W1 x xs) (hg : W1.grownBy W' x.ownBlock) : Duo w W' v u v2 u2 := by
  have h1 := h.next hb
  exact h1.kt (h1.b.grown hg h1.b.size (fun g e => (hr.lt g e).1)) (KeepTy.grown hg (fun g e => by
    obtain ⟨cur, hc⟩ := own_typed hr e
    exact NotTy.of hc (by decide)))
theorem Duo.cell {w W : World} {v u v2 u2 x : Value} {G k : Nat} (h : Duo w W v u v2 u2) (hG : w.heap.size + 2 < G) : Duo w (W.setCell ⟨G, k, none⟩ x) v u v2 u2 :=
  ⟨block_other h.x (by show G ≠ _; omega) _, block_other h.y (by show G ≠ _; omega) _, block_other h.r (by show G ≠ _; omega) _, h.b.setCell (p := ⟨G, k, none⟩) (by show _ ≤ G; omega) _⟩
theorem Duo.row {w W W' : World} {v u v2 u2 x : Value} {xs : List Int} (h : Duo w W v u v2 u2) (hr : RowI w.heap.size W x xs) (hk : KB (fun g => x.ownBlock = some g) W W') : Duo w W' v u v2 u2 :=
  h.kt (h.b.trans (hk.below h.b.size (fun g e => (hr.lt g e).1))) (KeepTy.kb hk (fun g e => by
    obtain ⟨cur, hc⟩ := own_typed hr e
    exact NotTy.of hc (by decide)))
/-! rho -/
theorem rho1_any (w : World) (s : Int) : Calls Try.prog 79 #[.int .i64 s] w fun e w' => e = .returned (.bool (badSide s)) ∧ w = w' := by
  by_cases h : s < 0
  · go_enter Try.func79, Try.ntmps79
    go_wp2_with fail
    go_ret
    exact ⟨ret_bool (by simp [badSide, h]), rfl⟩
  · by_cases h2 : 65536 < s
    · go_enter Try.func79, Try.ntmps79
      go_wp2_with fail
      go_ret
      exact ⟨ret_bool (by simp [badSide, h2]), rfl⟩
    · go_enter Try.func79, Try.ntmps79
      go_wp2_with fail
      go_ret
      exact ⟨ret_bool (by simp [badSide, h, h2]), rfl⟩
theorem rho1_all (xs : List Int) (w : World) : ∀ x ∈ xs, ∀ w', Below w.heap.size w w' → Calls Try.prog 79 (#[.int .i64 x] ++ #[]) w' fun e w'' => e = .returned (.bool (badSide x)) ∧ Below w.heap.size w' w'' :=
  fun x _ w' _ => (rho1_any w' x).mono fun _ _ ⟨he, hw⟩ => ⟨he, hw ▸ Below.refl _ _⟩
theorem rho1_in (args : Array Value) (w : World) : (callFunc 79 args).run Try.prog w = .ok (.enter 79 args) w :=
  callFunc_enter Try.func79 (by kernel_rfl) rfl args w
/-- so many numbers of a list that goes round -/
def roundL (e : List Int) (m : Nat) : List Int := (List.range m).map fun i => e.getD (i % e.length) 0
theorem roundL_len (e : List Int) (m : Nat) : (roundL e m).length = m := by simp [roundL]
theorem roundL_step {e : List Int} {q c : Nat} (hc : c ≤ e.length) : roundL e (q * e.length) ++ e.take c = roundL e (q * e.length + c) := by
  unfold roundL
  rw [List.range_add, List.map_append]
  congr 1
  apply List.ext_getElem
  · simp; omega
  · intro i h1 h2
    simp at h1 h2
    simp only [List.getElem_take, List.map_map, List.getElem_map, List.getElem_range, Function.comp]
    have : (q * e.length + i) % e.length = i := by rw [Nat.mul_comm, Nat.mul_add_mod]; exact Nat.mod_eq_of_lt (by omega)
    rw [this, List.getD_eq_getElem?_getD, List.getElem?_eq_getElem (by omega)]
    rfl
theorem src_cut {w : World} {a : Option Addr} {c n : Nat} {xs : List Int} (h : Src w (.slice a n c) n (xs.map (Value.int .i64))) {k : Nat} (hk : k ≤ xs.length) : Src w (.slice (subA a c 0) k c) k ((xs.take k).map (Value.int .i64)) := by
  rcases h with ⟨e, h2, h3⟩ | ⟨ad, c', e, h2⟩
  · have hx : xs = [] := by simpa using h2
    subst hx
    have hk0 : k = 0 := by simpa using hk
    subst hk0
    cases e
    exact .inl ⟨rfl, rfl, rfl⟩
  · cases e
    have hs : subA (some ad) c 0 = some ad := by
      unfold subA
      split
      · rfl
      · have : ad.add 0 = ad := by unfold Addr.add; split <;> simp_all
        simp [this]
    rw [hs]
    refine .inr ⟨_, _, rfl, fun j z hz => h2 j z ?_⟩
    rw [List.map_take, List.getElem?_take] at hz
    split at hz
    · exact hz
    · cases hz
theorem rho_four {d : List Int} (h : 4 < d.length ∨ d.any badSide = true) {s t e : List Int} (hs : ¬ 1 < s.length) : rhoA s d t e = noA 73 := by unfold rhoA; rw [if_neg hs, if_pos h]
set_option maxHeartbeats 8000000 in
theorem rho_any (w : World) (v u v2 u2 : Value) (s d t e : List Int) (hs : SlA w v s) (hd : SlA w u d) (ht : SlA w v2 t) (he : SlA w u2 e) :
    Calls Try.prog 48 #[.agg #[v, u], .agg #[v2, u2]] w fun e' w' => RetArr w.heap.size (rhoA s d t e) e' w' ∧ Below w.heap.size w w' := by
  by_cases h1 : 1 < s.length
  · have e1 : rhoA s d t e = noA 71 := by unfold rhoA; rw [if_pos h1]
    rw [e1]
    clear e1
    have HS0 := Lib.hid hs.src; have HS1 := Lib.hid hd.src; have HS2 := Lib.hid ht.src; have HS3 := Lib.hid he.src
    obtain ⟨a0, c0, rfl, h01, h02, -, h04, -⟩ := hs
    obtain ⟨a1, c1, rfl, h11, h12, -, h14, hin⟩ := hd
    obtain ⟨a2, c2, rfl, h21, h22, -, h24, -⟩ := ht
    obtain ⟨a3, c3, rfl, h31, h32, -, h34, hie⟩ := he
    have h02' : c0 ≤ 9223372036854775807 := h02
    have h12' : c1 ≤ 9223372036854775807 := h12
    have h22' : c2 ≤ 9223372036854775807 := h22
    have h32' : c3 ≤ 9223372036854775807 := h32
    have HM : Hid (s.length ≤ maxLen) := Lib.hid (Nat.le_trans h01 h02)
    have HM2 : Hid (t.length ≤ maxLen) := Lib.hid (Nat.le_trans h21 h22)
    have H0 := Lib.hid h04; have H1 := Lib.hid h14; have HIN := Lib.hid hin
    have H2 := Lib.hid h24; have H3 := Lib.hid h34; have HIE := Lib.hid hie
    have HO := Lib.hid (Duo.mk0 w (.slice a0 s.length c0) (.slice a1 d.length c1) (.slice a2 t.length c2) (.slice a3 e.length c3))
    obtain ⟨r, HRR⟩ : ∃ r, Hid ((noA 71) = r) := ⟨_, Lib.hid rfl⟩
    rw [HRR.out]
    clear h04 h14 h24 h34 h02 h12 h22 h32 hin hie
    go_enter Try.func48, Try.ntmps48
    go_upto_region 1 with fail
    refine gen_worldA (fun W => Duo w W (.slice a0 s.length c0) (.slice a1 d.length c1) (.slice a2 t.length c2) (.slice a3 e.length c3)) HO.out ?_
    rintro W1 hO
    have HO2 := Lib.hid hO
    have x0 := hO.c0; have x1 := hO.c1; have x2 := hO.c2; have x3 := hO.c3
    clear HO hO
    have hq := fault_at W1 w.heap.size HO2.out.b.size 71 r HRR.out
    have HQ := Lib.hid hq; have HR := Lib.hid HO2.out.r; have HB := Lib.hid HO2.out.b
    clear hq
    go_wp2_with fail
    refine (Hid.out HQ).mono ?_
    rintro e w9 ⟨⟨v9, u9, rfl, hv9, hu9, hap9⟩, hb9⟩
    have hR9 := block_below (Hid.out HR) hb9
    have HV9 := Lib.hid hv9; have HU9 := Lib.hid hu9; have HAP9 := Lib.hid hap9; have HR9 := Lib.hid hR9
    have HB9 := Lib.hid (bNext hb9 (Hid.out HB))
    obtain ⟨a9, c9, rfl, -, -⟩ := RowI.slice hv9
    obtain ⟨a8, c8, rfl, -, -⟩ := RowI.slice hu9
    have g0 := cell_of_row w9 _ 0 _ _ _ hR9; have g1 := cell_of_row w9 _ 1 _ _ _ hR9
    have z0 := frozen_of_row w9 _ 0 _ _ hR9; have z1 := frozen_of_row w9 _ 1 _ _ hR9
    clear hv9 hu9 hap9 hb9 hR9
    go_wp2_with fail
    exact fin_arr rfl rfl rfl HR9.out HV9.out HU9.out HAP9.out HB9.out (by omega)
  by_cases h4 : 4 < d.length
  · rw [rho_four (.inl h4) h1]
    have HS0 := Lib.hid hs.src; have HS1 := Lib.hid hd.src; have HS2 := Lib.hid ht.src; have HS3 := Lib.hid he.src
    obtain ⟨a0, c0, rfl, h01, h02, -, h04, -⟩ := hs
    obtain ⟨a1, c1, rfl, h11, h12, -, h14, hin⟩ := hd
    obtain ⟨a2, c2, rfl, h21, h22, -, h24, -⟩ := ht
    obtain ⟨a3, c3, rfl, h31, h32, -, h34, hie⟩ := he
    have h02' : c0 ≤ 9223372036854775807 := h02
    have h12' : c1 ≤ 9223372036854775807 := h12
    have h22' : c2 ≤ 9223372036854775807 := h22
    have h32' : c3 ≤ 9223372036854775807 := h32
    have HM : Hid (s.length ≤ maxLen) := Lib.hid (Nat.le_trans h01 h02)
    have HM2 : Hid (t.length ≤ maxLen) := Lib.hid (Nat.le_trans h21 h22)
    have H0 := Lib.hid h04; have H1 := Lib.hid h14; have HIN := Lib.hid hin
    have H2 := Lib.hid h24; have H3 := Lib.hid h34; have HIE := Lib.hid hie
    have HO := Lib.hid (Duo.mk0 w (.slice a0 s.length c0) (.slice a1 d.length c1) (.slice a2 t.length c2) (.slice a3 e.length c3))
    obtain ⟨r, HRR⟩ : ∃ r, Hid ((noA 73) = r) := ⟨_, Lib.hid rfl⟩
    rw [HRR.out]
    clear h04 h14 h24 h34 h02 h12 h22 h32 hin hie
    go_enter Try.func48, Try.ntmps48
    go_upto_region 1 with fail
    refine gen_worldA (fun W => Duo w W (.slice a0 s.length c0) (.slice a1 d.length c1) (.slice a2 t.length c2) (.slice a3 e.length c3)) HO.out ?_
    rintro W1 hO
    have HO2 := Lib.hid hO
    have x0 := hO.c0; have x1 := hO.c1; have x2 := hO.c2; have x3 := hO.c3
    clear HO hO
    have hq := fault_at W1 w.heap.size HO2.out.b.size 73 r HRR.out
    have HQ := Lib.hid hq; have HR := Lib.hid HO2.out.r; have HB := Lib.hid HO2.out.b
    clear hq
    go_wp2_with fail
    refine (Hid.out HQ).mono ?_
    rintro e w9 ⟨⟨v9, u9, rfl, hv9, hu9, hap9⟩, hb9⟩
    have hR9 := block_below (Hid.out HR) hb9
    have HV9 := Lib.hid hv9; have HU9 := Lib.hid hu9; have HAP9 := Lib.hid hap9; have HR9 := Lib.hid hR9
    have HB9 := Lib.hid (bNext hb9 (Hid.out HB))
    obtain ⟨a9, c9, rfl, -, -⟩ := RowI.slice hv9
    obtain ⟨a8, c8, rfl, -, -⟩ := RowI.slice hu9
    have g0 := cell_of_row w9 _ 0 _ _ _ hR9; have g1 := cell_of_row w9 _ 1 _ _ _ hR9
    have z0 := frozen_of_row w9 _ 0 _ _ hR9; have z1 := frozen_of_row w9 _ 1 _ _ hR9
    clear hv9 hu9 hap9 hb9 hR9
    go_wp2_with fail
    exact fin_arr rfl rfl rfl HR9.out HV9.out HU9.out HAP9.out HB9.out (by omega)
  cases hbad : d.any badSide with
  | true =>
    rw [rho_four (.inr hbad) h1]
    have HBD := Lib.hid hbad
    clear hbad
    have HS0 := Lib.hid hs.src; have HS1 := Lib.hid hd.src; have HS2 := Lib.hid ht.src; have HS3 := Lib.hid he.src
    obtain ⟨a0, c0, rfl, h01, h02, -, h04, -⟩ := hs
    obtain ⟨a1, c1, rfl, h11, h12, -, h14, hin⟩ := hd
    obtain ⟨a2, c2, rfl, h21, h22, -, h24, -⟩ := ht
    obtain ⟨a3, c3, rfl, h31, h32, -, h34, hie⟩ := he
    have h02' : c0 ≤ 9223372036854775807 := h02
    have h12' : c1 ≤ 9223372036854775807 := h12
    have h22' : c2 ≤ 9223372036854775807 := h22
    have h32' : c3 ≤ 9223372036854775807 := h32
    have HM : Hid (s.length ≤ maxLen) := Lib.hid (Nat.le_trans h01 h02)
    have HM2 : Hid (t.length ≤ maxLen) := Lib.hid (Nat.le_trans h21 h22)
    have H0 := Lib.hid h04; have H1 := Lib.hid h14; have HIN := Lib.hid hin
    have H2 := Lib.hid h24; have H3 := Lib.hid h34; have HIE := Lib.hid hie
    have HO := Lib.hid (Duo.mk0 w (.slice a0 s.length c0) (.slice a1 d.length c1) (.slice a2 t.length c2) (.slice a3 e.length c3))
    obtain ⟨r, HRR⟩ : ∃ r, Hid ((noA 73) = r) := ⟨_, Lib.hid rfl⟩
    rw [HRR.out]
    clear h04 h14 h24 h34 h02 h12 h22 h32 hin hie
    go_enter Try.func48, Try.ntmps48
    go_upto_region 1 with fail
    refine gen_worldA (fun W => Duo w W (.slice a0 s.length c0) (.slice a1 d.length c1) (.slice a2 t.length c2) (.slice a3 e.length c3)) HO.out ?_
    rintro W1 hO
    have HO2 := Lib.hid hO
    have x0 := hO.c0; have x1 := hO.c1; have x2 := hO.c2; have x3 := hO.c3
    clear HO hO
    have hq := containsFunc_any W1 a1 c1 d 79 #[] badSide rho1_in (Nat.le_trans h11 h12') (H1.out.below HO2.out.b (Nat.le_refl _)) (rho1_all d W1)
    rw [HBD.out] at hq
    have HQ := Lib.hid hq
    clear hq
    go_wp2_with fail
    refine HQ.out.mono ?_
    rintro e' W2 ⟨rfl, hb2⟩
    have HO3 := Lib.hid (HO2.out.next hb2)
    have hq := fault_at W2 w.heap.size HO3.out.b.size 73 r HRR.out
    clear HQ
    have HQ := Lib.hid hq; have HR := Lib.hid HO3.out.r; have HB := Lib.hid HO3.out.b
    clear hq hb2 HO2 x0 x1 x2 x3
    go_wp2_with fail
    refine (Hid.out HQ).mono ?_
    rintro e w9 ⟨⟨v9, u9, rfl, hv9, hu9, hap9⟩, hb9⟩
    have hR9 := block_below (Hid.out HR) hb9
    have HV9 := Lib.hid hv9; have HU9 := Lib.hid hu9; have HAP9 := Lib.hid hap9; have HR9 := Lib.hid hR9
    have HB9 := Lib.hid (bNext hb9 (Hid.out HB))
    obtain ⟨a9, c9, rfl, -, -⟩ := RowI.slice hv9
    obtain ⟨a8, c8, rfl, -, -⟩ := RowI.slice hu9
    have g0 := cell_of_row w9 _ 0 _ _ _ hR9; have g1 := cell_of_row w9 _ 1 _ _ _ hR9
    have z0 := frozen_of_row w9 _ 0 _ _ hR9; have z1 := frozen_of_row w9 _ 1 _ _ hR9
    clear hv9 hu9 hap9 hb9 hR9
    go_wp2_with fail
    exact fin_arr rfl rfl rfl HR9.out HV9.out HU9.out HAP9.out HB9.out (by omega)
  | false =>
    have e1 : rhoA s d t e = if (size d).2 ≠ 0 then noA 74 else if 0 < (size d).1 ∧ e.length = 0 then noA 72 else okA d (roundL e (size d).1.toNat) := by
      unfold rhoA; rw [if_neg h1, if_neg (by rw [hbad]; simp; omega)]; rfl
    rw [e1]
    have HBD := Lib.hid hbad
    clear hbad e1
    obtain ⟨n, er, hsz⟩ : ∃ n er, size d = (n, er) := ⟨_, _, rfl⟩
    rw [hsz]
    have hn0 : er = 0 → 0 ≤ n ∧ n ≤ 65536 := fun h => by
      subst h
      have g := size_good hsz
      refine ⟨?_, g.le⟩
      rw [g.prod]
      exact (prodL_le_pow g.side).1
    have HSZ := Lib.hid hsz
    clear hsz
    dsimp only
    have HS0 := Lib.hid hs.src; have HS1 := Lib.hid hd.src; have HS2 := Lib.hid ht.src; have HS3 := Lib.hid he.src
    obtain ⟨a0, c0, rfl, h01, h02, -, h04, -⟩ := hs
    obtain ⟨a1, c1, rfl, h11, h12, -, h14, hin⟩ := hd
    obtain ⟨a2, c2, rfl, h21, h22, -, h24, -⟩ := ht
    obtain ⟨a3, c3, rfl, h31, h32, -, h34, hie⟩ := he
    have h02' : c0 ≤ 9223372036854775807 := h02
    have h12' : c1 ≤ 9223372036854775807 := h12
    have h22' : c2 ≤ 9223372036854775807 := h22
    have h32' : c3 ≤ 9223372036854775807 := h32
    have HM : Hid (s.length ≤ maxLen) := Lib.hid (Nat.le_trans h01 h02)
    have HM2 : Hid (t.length ≤ maxLen) := Lib.hid (Nat.le_trans h21 h22)
    have H0 := Lib.hid h04; have H1 := Lib.hid h14; have HIN := Lib.hid hin
    have H2 := Lib.hid h24; have H3 := Lib.hid h34; have HIE := Lib.hid hie
    have HO := Lib.hid (Duo.mk0 w (.slice a0 s.length c0) (.slice a1 d.length c1) (.slice a2 t.length c2) (.slice a3 e.length c3))
    obtain ⟨r, HRR⟩ : ∃ r, Hid ((if er ≠ 0 then noA 74 else if 0 < n ∧ e.length = 0 then noA 72 else okA d (roundL e n.toNat)) = r) := ⟨_, Lib.hid rfl⟩
    rw [HRR.out]
    clear h04 h14 h24 h34 h02 h12 h22 h32 hin hie
    go_enter Try.func48, Try.ntmps48
    go_upto_region 1 with fail
    refine gen_worldA (fun W => Duo w W (.slice a0 s.length c0) (.slice a1 d.length c1) (.slice a2 t.length c2) (.slice a3 e.length c3)) HO.out ?_
    rintro W1 hO
    have HO2 := Lib.hid hO
    have x0 := hO.c0; have x1 := hO.c1; have x2 := hO.c2; have x3 := hO.c3
    clear HO hO
    have hq := containsFunc_any W1 a1 c1 d 79 #[] badSide rho1_in (Nat.le_trans h11 h12') (H1.out.below HO2.out.b (Nat.le_refl _)) (rho1_all d W1)
    rw [HBD.out] at hq
    have HQ := Lib.hid hq
    clear hq
    go_wp2_with fail
    refine HQ.out.mono ?_
    rintro e' W2 ⟨rfl, hb2⟩
    have HO3 := Lib.hid (HO2.out.next hb2)
    have hq := size_any W2 a1 c1 d (Nat.le_trans h11 h12') (H1.out.below HO3.out.b (Nat.le_refl _))
    rw [HSZ.out] at hq
    clear HQ x0 x1 x2 x3
    have HQ := Lib.hid hq
    have x0 := HO3.out.c0; have x1 := HO3.out.c1; have x2 := HO3.out.c2; have x3 := HO3.out.c3
    clear hq hb2 HO2
    go_wp2_with fail
    refine HQ.out.mono ?_
    rintro e' W3 ⟨rfl, hb3⟩
    have HO4 := Lib.hid (HO3.out.next hb3)
    clear HQ x0 x1 x2 x3
    have x0 := HO4.out.c0; have x1 := HO4.out.c1; have x2 := HO4.out.c2; have x3 := HO4.out.c3
    clear hb3 HO3
    unfold two
    by_cases her : er = 0
    case neg =>
      have her' : (er != 0) = true := by simpa using her
      rw [if_pos her] at HRR
      have hq := fault_at W3 w.heap.size HO4.out.b.size 74 r HRR.out
      have HQ := Lib.hid hq; have HR := Lib.hid HO4.out.r; have HB := Lib.hid HO4.out.b
      clear hq hn0 her
      go_wp2_with fail
      refine (Hid.out HQ).mono ?_
      rintro e w9 ⟨⟨v9, u9, rfl, hv9, hu9, hap9⟩, hb9⟩
      have hR9 := block_below (Hid.out HR) hb9
      have HV9 := Lib.hid hv9; have HU9 := Lib.hid hu9; have HAP9 := Lib.hid hap9; have HR9 := Lib.hid hR9
      have HB9 := Lib.hid (bNext hb9 (Hid.out HB))
      obtain ⟨a9, c9, rfl, -, -⟩ := RowI.slice hv9
      obtain ⟨a8, c8, rfl, -, -⟩ := RowI.slice hu9
      have g0 := cell_of_row w9 _ 0 _ _ _ hR9; have g1 := cell_of_row w9 _ 1 _ _ _ hR9
      have z0 := frozen_of_row w9 _ 0 _ _ hR9; have z1 := frozen_of_row w9 _ 1 _ _ hR9
      clear hv9 hu9 hap9 hb9 hR9
      go_wp2_with fail
      exact fin_arr rfl rfl rfl HR9.out HV9.out HU9.out HAP9.out HB9.out (by omega)
    subst her
    obtain ⟨hn1, hn2⟩ := hn0 rfl
    rw [if_neg (by decide)] at HRR
    obtain ⟨m, rfl⟩ : ∃ m : Nat, n = m := ⟨n.toNat, by omega⟩
    rw [Int.toNat_natCast] at HRR
    clear hn0
    by_cases hz : 0 < (m : Int) ∧ e.length = 0
    · obtain ⟨hz1, hz2⟩ := hz
      rw [if_pos ⟨hz1, hz2⟩] at HRR
      have hq := fault_at W3 w.heap.size HO4.out.b.size 72 r HRR.out
      have HQ := Lib.hid hq; have HR := Lib.hid HO4.out.r; have HB := Lib.hid HO4.out.b
      clear hq
      go_wp2_with fail
      refine (Hid.out HQ).mono ?_
      rintro e w9 ⟨⟨v9, u9, rfl, hv9, hu9, hap9⟩, hb9⟩
      have hR9 := block_below (Hid.out HR) hb9
      have HV9 := Lib.hid hv9; have HU9 := Lib.hid hu9; have HAP9 := Lib.hid hap9; have HR9 := Lib.hid hR9
      have HB9 := Lib.hid (bNext hb9 (Hid.out HB))
      obtain ⟨a9, c9, rfl, -, -⟩ := RowI.slice hv9
      obtain ⟨a8, c8, rfl, -, -⟩ := RowI.slice hu9
      have g0 := cell_of_row w9 _ 0 _ _ _ hR9; have g1 := cell_of_row w9 _ 1 _ _ _ hR9
      have z0 := frozen_of_row w9 _ 0 _ _ hR9; have z1 := frozen_of_row w9 _ 1 _ _ hR9
      clear hv9 hu9 hap9 hb9 hR9
      go_wp2_with fail
      exact fin_arr rfl rfl rfl HR9.out HV9.out HU9.out HAP9.out HB9.out (by omega)
    · rw [if_neg hz] at HRR
      have HEL : Hid (0 < m → 0 < e.length) := Lib.hid fun h => by omega
      by_cases hm0 : (0 : Int) < (m : Int)
      · have hel : ¬ e.length = 0 := fun h => hz ⟨hm0, h⟩
        have hel2 : 0 < e.length := by omega
        clear hz hel
        obtain ⟨i0, hi, hz0, hz1, hz2⟩ := info_parts Try.info2
        have Hi := Lib.hid hi; have Hz0 := Lib.hid hz0; have Hz1 := Lib.hid hz1; have Hz2 := Lib.hid hz2; clear hi hz0 hz1 hz2
        have hsz := HO4.out.b.size
        go_wp2_with (at_make; refine wpList_make_own _ rfl _ _ 22 rfl w.heap.size 2 i0 _ 1 Try.underlying22 Hi.out Hz0.out Hz1.out _ _ _ m rfl rfl rfl ?c2 ?c3 ?c4 ?_)
        case c2 => rw [Hz2.out]; omega
        case c3 => unfold maxLen; omega
        case c4 => exact hsz
        intro w4 hown hgrow
        have hb4 : Below W3.heap.size W3 w4 := (Below.refl _ _).grown hgrow (Nat.le_refl _) (by simp)
        have HO5 := Lib.hid (HO4.out.next hb4)
        have HV := Lib.hid (show RowI w.heap.size w4 (.slice (some ⟨W3.heap.size, 0, none⟩) 0 m) (roundL e 0) from hown)
        clear hown hgrow hb4 HO4 hsz x0 x1 x2 x3
        go_wp2_with fail
        go_loopw [8] (fun o wr => ∃ (k c : Nat) (a : Option Addr), k ≤ m ∧ o = .slice a k c ∧ RowI w.heap.size wr o (roundL e k) ∧ Duo w wr (.slice a0 s.length c0) (.slice a1 d.length c1) (.slice a2 t.length c2) (.slice a3 e.length c3) ∧ (k = m ∨ ∃ q, k = q * e.length)) (fun o _ => m - (match o with | .slice _ k _ => k | _ => 0))
        case atStart => exact ⟨0, m, _, by omega, rfl, HV.out, HO5.out, .inr ⟨0, by simp⟩⟩
        case round =>
          obtain ⟨k, c, a, hk, rfl, hrw, hO, hkq⟩ := hrel
          clear HV HO5
          by_cases hlt : k < m
          · have hel := HEL.out (by omega)
            obtain ⟨q, hq⟩ := hkq.resolve_left (by omega)
            have x2 := hO.c2; have x3 := hO.c3
            have hkm : (k : Int) < (m : Int) := by omega
            obtain ⟨c', hc', hst, hnx⟩ : ∃ c', c' ≤ e.length ∧ (if (e.length : Int) ≤ (m : Int) - k then (c' : Int) = e.length else (c' : Int) = (m : Int) - k) ∧ (k + c' = m ∨ ∃ q, k + c' = q * e.length) ∧ 0 < c' ∧ k + c' ≤ m := by
              by_cases hle : (e.length : Int) ≤ (m : Int) - k
              · exact ⟨e.length, Nat.le_refl _, by rw [if_pos hle], .inr ⟨q + 1, by rw [hq, Nat.succ_mul]⟩, by omega, by omega⟩
              · exact ⟨m - k, by omega, by rw [if_neg hle]; omega, .inl (by omega), by omega, by omega⟩
            have hap : roundL e k ++ e.take c' = roundL e (k + c') := by rw [hq]; exact roundL_step hc'
            have hsrc : Src wr (.slice (subA a3 c3 0) c' c3) c' ((e.take c').map (Value.int .i64)) := by
              have := src_cut (HS3.out.below hO.b) hc'
              exact this
            have hsl := fun W => slice_hi W a3 e.length c3 .i64 (c' : Int) (by omega) (by omega)
            rw [Int.toNat_natCast] at hsl
            generalize subA a3 c3 0 = a4 at hsrc hsl
            have HSR := Lib.hid hsrc; have HRW := Lib.hid hrw; have HOR := Lib.hid hO; have HNX := Lib.hid hnx; have HAP := Lib.hid hap
            have hsz := hO.b.size
            have HLN := Lib.hid (roundL_len e k); have HTK := Lib.hid (show (e.take c').length = c' by rw [List.length_take]; omega)
            have hc1 := hnx.2.2
            clear hsrc hrw hO hnx hap hkq hq
            by_cases hle : (e.length : Int) ≤ (m : Int) - k
            · rw [if_pos hle] at hst
              obtain rfl : c' = e.length := by omega
              have hle' : ¬ (m : Int) - k < (e.length : Int) := by omega
              clear hst
              go_wp2_with (at_builtin; refine wpList_app rfl _ _ rfl w.heap.size _ _ (e.take e.length) _ e.length HTK.out rfl HRW.out rfl HSR.out (by rw [HLN.out]; omega) hsz ?_)
              intro v' w9 hv9 hg9 hn9
              have hv9 : RowI w.heap.size w9 v' (roundL e k ++ e) := hv9
              rw [show roundL e k ++ e = roundL e (k + e.length) by have := HAP.out; rwa [List.take_length] at this] at hv9
              have HO9 := Lib.hid (HOR.out.app (Below.refl _ _) HRW.out hg9)
              obtain ⟨a9, c9, e9, -, -⟩ := hv9.slice
              rw [roundL_len] at e9
              subst e9
              have HV9 := Lib.hid hv9
              clear hv9 hg9 hn9 HSR HRW HOR hsl hsz x2 x3 HLN HTK
              go_wp2_with fail
              go_roundw
              case rel => exact ⟨k + e.length, c9, a9, HNX.out.2.2, rfl, HV9.out, HO9.out, HNX.out.1⟩
              case measure => have := HNX.out; simp <;> omega
            · rw [if_neg hle] at hst
              have hst' : (m : Int) - k = (c' : Int) := hst.symm
              have hle' : (m : Int) - k < (e.length : Int) := by omega
              clear hst
              go_wp2_with (at_builtin; refine wpList_app rfl _ _ rfl w.heap.size _ _ (e.take c') _ c' HTK.out rfl HRW.out rfl HSR.out (by rw [HLN.out]; omega) hsz ?_)
              intro v' w9 hv9 hg9 hn9
              have hv9 : RowI w.heap.size w9 v' (roundL e k ++ e.take c') := hv9
              rw [HAP.out] at hv9
              have HO9 := Lib.hid (HOR.out.app (Below.refl _ _) HRW.out hg9)
              obtain ⟨a9, c9, e9, -, -⟩ := hv9.slice
              rw [roundL_len] at e9
              subst e9
              have HV9 := Lib.hid hv9
              clear hv9 hg9 hn9 HSR HRW HOR hsl hsz x2 x3 HLN HTK
              go_wp2_with fail
              go_roundw
              case rel => exact ⟨k + c', c9, a9, HNX.out.2.2, rfl, HV9.out, HO9.out, HNX.out.1⟩
              case measure => have := HNX.out; simp <;> omega
          · obtain rfl : k = m := by omega
            have hq := good_any wr w.heap.size hO.b.size a1 d.length c1 d (roundL e k) (.slice a k c) rfl (by omega) (H1.out.below hO.b (Nat.le_refl _)) hrw
            rw [HRR.out] at hq
            have HQ := Lib.hid hq; have HR := Lib.hid hO.r; have HB := Lib.hid hO.b
            have x1 := hO.c1
            clear hq hO hrw hlt hkq
            go_wp2_with fail
            refine (Hid.out HQ).mono ?_
            rintro e w9 ⟨⟨v9, u9, rfl, hv9, hu9, hap9⟩, hb9⟩
            have hR9 := block_below (Hid.out HR) hb9
            have HV9 := Lib.hid hv9; have HU9 := Lib.hid hu9; have HAP9 := Lib.hid hap9; have HR9 := Lib.hid hR9
            have HB9 := Lib.hid (bNext hb9 (Hid.out HB))
            obtain ⟨a9, c9, rfl, -, -⟩ := RowI.slice hv9
            obtain ⟨a8, c8, rfl, -, -⟩ := RowI.slice hu9
            have g0 := cell_of_row w9 _ 0 _ _ _ hR9; have g1 := cell_of_row w9 _ 1 _ _ _ hR9
            have z0 := frozen_of_row w9 _ 0 _ _ hR9; have z1 := frozen_of_row w9 _ 1 _ _ hR9
            clear hv9 hu9 hap9 hb9 hR9
            go_wp2_with fail
            exact fin_arr rfl rfl rfl HR9.out HV9.out HU9.out HAP9.out HB9.out (by omega)
        done
      · obtain rfl : m = 0 := by omega
        clear hz HEL
        obtain ⟨i0, hi, hz0, hz1, hz2⟩ := info_parts Try.info2
        have Hi := Lib.hid hi; have Hz0 := Lib.hid hz0; have Hz1 := Lib.hid hz1; have Hz2 := Lib.hid hz2; clear hi hz0 hz1 hz2
        have hsz := HO4.out.b.size
        go_wp2_with (at_make; refine wpList_make_own _ rfl _ _ 22 rfl w.heap.size 2 i0 _ 1 Try.underlying22 Hi.out Hz0.out Hz1.out _ _ _ 0 rfl rfl rfl ?c2 ?c3 ?c4 ?_)
        case c2 => rw [Hz2.out]; omega
        case c3 => unfold maxLen; omega
        case c4 => exact hsz
        intro w4 hown hgrow
        have hb4 : Below W3.heap.size W3 w4 := (Below.refl _ _).grown hgrow (Nat.le_refl _) (by simp)
        have HO5 := Lib.hid (HO4.out.next hb4)
        have HV := Lib.hid (show RowI w.heap.size w4 (.slice (some ⟨W3.heap.size, 0, none⟩) 0 0) (roundL e 0) from hown)
        clear hown hgrow hb4 HO4 hsz x0 x1 x2 x3
        go_wp2_with fail
        go_loopw [8] (fun o wr => ∃ (c : Nat) (a : Option Addr), o = .slice a 0 c ∧ RowI w.heap.size wr o (roundL e 0) ∧ Duo w wr (.slice a0 s.length c0) (.slice a1 d.length c1) (.slice a2 t.length c2) (.slice a3 e.length c3)) (fun o _ => 0)
        case atStart => exact ⟨0, _, rfl, HV.out, HO5.out⟩
        case round =>
          obtain ⟨c, a, rfl, hrw, hO⟩ := hrel
          have hq := good_any wr w.heap.size hO.b.size a1 d.length c1 d (roundL e 0) (.slice a 0 c) rfl (by omega) (H1.out.below hO.b (Nat.le_refl _)) hrw
          rw [HRR.out] at hq
          have HQ := Lib.hid hq; have HR := Lib.hid hO.r; have HB := Lib.hid hO.b
          have x1 := hO.c1
          clear hq hO hrw HV HO5
          go_wp2_with fail
          refine (Hid.out HQ).mono ?_
          rintro e w9 ⟨⟨v9, u9, rfl, hv9, hu9, hap9⟩, hb9⟩
          have hR9 := block_below (Hid.out HR) hb9
          have HV9 := Lib.hid hv9; have HU9 := Lib.hid hu9; have HAP9 := Lib.hid hap9; have HR9 := Lib.hid hR9
          have HB9 := Lib.hid (bNext hb9 (Hid.out HB))
          obtain ⟨a9, c9, rfl, -, -⟩ := RowI.slice hv9
          obtain ⟨a8, c8, rfl, -, -⟩ := RowI.slice hu9
          have g0 := cell_of_row w9 _ 0 _ _ _ hR9; have g1 := cell_of_row w9 _ 1 _ _ _ hR9
          have z0 := frozen_of_row w9 _ 0 _ _ hR9; have z1 := frozen_of_row w9 _ 1 _ _ hR9
          clear hv9 hu9 hap9 hb9 hR9
          go_wp2_with fail
          exact fin_arr rfl rfl rfl HR9.out HV9.out HU9.out HAP9.out HB9.out (by omega)
end Go.Proofs.Ytmjkncmpanhgjaa

namespace Go.Proofs.Ytmjkncmpanhgjaa
set_option maxRecDepth 100000
open Go.RowKit
set_option linter.unusedVariables false
set_option linter.unusedSimpArgs false

/-! prim.part. -/
/-- an array that has a side: its first side, and how many numbers a cell has -/
theorem first_side {t e : List Int} (hr : right t e = true) (ht : t.length ≠ 0) : ∃ m c : Nat, t.headD 0 = (m : Int) ∧ m ≤ 65536 ∧ (e.length : Int) / (m : Int) = (c : Int) ∧ (m ≠ 0 → m * c = e.length) ∧ (m = 0 → e.length = 0) ∧ c ≤ e.length := by
  have g := (right_good hr).2
  rcases t with _ | ⟨x, t⟩
  · exact absurd rfl ht
  have hx := g.side x (by simp)
  obtain ⟨m, rfl⟩ := Int.eq_ofNat_of_zero_le hx.1
  have hp := g.prod
  rw [prodL] at hp
  have h0 : 0 ≤ prodL t := (prodL_le_pow (l := t) (fun y hy => g.side y (by simp [hy]))).1
  obtain ⟨c, hc⟩ := Int.eq_ofNat_of_zero_le h0
  rw [hc] at hp
  have hp' : e.length = m * c := by exact_mod_cast hp
  refine ⟨m, e.length / m, rfl, by omega, by exact_mod_cast rfl, fun hm => ?_, fun hm => by rw [hp', hm, Nat.zero_mul], Nat.div_le_self _ _⟩
  rw [hp', Nat.mul_div_cancel_left _ (by omega)]
theorem cut_eq {t e : List Int} {m c A B l h : Nat} (hm : t.headD 0 = (m : Int)) (hc : (e.length : Int) / (m : Int) = (c : Int)) (hl : A * c = l) (hh : B * c = h) (hAB : A ≤ B) :
    cutA t e (A : Int) (B : Int) = okA (((B : Int) - (A : Int)) :: t.tail) ((e.drop l).take (h - l)) := by
  unfold cutA
  simp only [hm, hc]
  congr 2
  · have : ((B : Int) - (A : Int)) * (c : Int) = ((h - l : Nat) : Int) := by
      have h1 : l ≤ h := by rw [← hl, ← hh]; exact Nat.mul_le_mul_right _ hAB
      rw [Int.sub_mul]
      have h2 : (A : Int) * (c : Int) = (l : Int) := by exact_mod_cast hl
      have h3 : (B : Int) * (c : Int) = (h : Int) := by exact_mod_cast hh
      omega
    rw [this, Int.toNat_natCast]
  · have : (A : Int) * (c : Int) = (l : Int) := by exact_mod_cast hl
    rw [this, Int.toNat_natCast]
theorem set_zero {t : List Int} (h : t.length ≠ 0) (x : Int) : t.set 0 x = x :: t.tail := by
  cases t with
  | nil => exact absurd rfl h
  | cons y t => rfl
theorem Duo.row2 {w W : World} {v u v2 u2 x : Value} {G n c k : Nat} {xs : List Int} (h : Duo w W v u v2 u2) (hr : RowI w.heap.size W (.slice (some ⟨G, 0, none⟩) n c) xs) : Duo w (W.setCell ⟨G, k, none⟩ x) v u v2 u2 :=
  h.kt (h.b.setCell (p := ⟨G, k, none⟩) (hr.lt G rfl).1 _) (KeepTy.setCell (p := ⟨G, k, none⟩) (by
    obtain ⟨cur, hc⟩ := own_typed hr rfl
    exact NotTy.of hc (by decide)) _)
set_option maxHeartbeats 8000000 in
theorem part_any (w : World) (b : Bool) (v u v2 u2 : Value) (s d t e : List Int) (hs : SlA w v s) (hd : SlA w u d) (ht : SlA w v2 t) (he : SlA w u2 e) (hr1 : right s d = true) (hr2 : right t e = true) :
    Calls Try.prog 49 #[.agg #[v, u], .agg #[v2, u2], .bool b] w fun e' w' => RetArr w.heap.size (takeA s d t e (!b)) e' w' ∧ Below w.heap.size w w' := by
  by_cases hb : 0 < s.length ∨ t.length = 0
  · have e1 : takeA s d t e (!b) = noA 71 := by unfold takeA; rw [if_pos hb]
    rw [e1]
    clear e1
    have HS0 := Lib.hid hs.src; have HS1 := Lib.hid hd.src; have HS2 := Lib.hid ht.src; have HS3 := Lib.hid he.src
    obtain ⟨a0, c0, rfl, h01, h02, -, h04, -⟩ := hs
    obtain ⟨a1, c1, rfl, h11, h12, -, h14, hin⟩ := hd
    obtain ⟨a2, c2, rfl, h21, h22, -, h24, -⟩ := ht
    obtain ⟨a3, c3, rfl, h31, h32, -, h34, hie⟩ := he
    have h02' : c0 ≤ 9223372036854775807 := h02
    have h12' : c1 ≤ 9223372036854775807 := h12
    have h22' : c2 ≤ 9223372036854775807 := h22
    have h32' : c3 ≤ 9223372036854775807 := h32
    have HM : Hid (s.length ≤ maxLen) := Lib.hid (Nat.le_trans h01 h02)
    have HM2 : Hid (t.length ≤ maxLen) := Lib.hid (Nat.le_trans h21 h22)
    have H0 := Lib.hid h04; have H1 := Lib.hid h14; have HIN := Lib.hid hin
    have H2 := Lib.hid h24; have H3 := Lib.hid h34; have HIE := Lib.hid hie
    have HO := Lib.hid (Duo.mk0 w (.slice a0 s.length c0) (.slice a1 d.length c1) (.slice a2 t.length c2) (.slice a3 e.length c3))
    obtain ⟨r, HRR⟩ : ∃ r, Hid ((noA 71) = r) := ⟨_, Lib.hid rfl⟩
    rw [HRR.out]
    clear h04 h14 h24 h34 h02 h12 h22 h32 hin hie
    go_enter Try.func49, Try.ntmps49
    go_upto_region 1 with fail
    refine gen_worldA (fun W => Duo w W (.slice a0 s.length c0) (.slice a1 d.length c1) (.slice a2 t.length c2) (.slice a3 e.length c3)) HO.out ?_
    rintro W1 hO
    have HO2 := Lib.hid hO
    have x0 := hO.c0; have x1 := hO.c1; have x2 := hO.c2; have x3 := hO.c3
    clear HO hO
    have hq := fault_at W1 w.heap.size HO2.out.b.size 71 r HRR.out
    have HQ := Lib.hid hq; have HR := Lib.hid HO2.out.r; have HB := Lib.hid HO2.out.b
    clear hq
    rcases hb with hb | hb
    · go_wp2_with fail
      refine (Hid.out HQ).mono ?_
      rintro e w9 ⟨⟨v9, u9, rfl, hv9, hu9, hap9⟩, hb9⟩
      have hR9 := block_below (Hid.out HR) hb9
      have HV9 := Lib.hid hv9; have HU9 := Lib.hid hu9; have HAP9 := Lib.hid hap9; have HR9 := Lib.hid hR9
      have HB9 := Lib.hid (bNext hb9 (Hid.out HB))
      obtain ⟨a9, c9, rfl, -, -⟩ := RowI.slice hv9
      obtain ⟨a8, c8, rfl, -, -⟩ := RowI.slice hu9
      have g0 := cell_of_row w9 _ 0 _ _ _ hR9; have g1 := cell_of_row w9 _ 1 _ _ _ hR9
      have z0 := frozen_of_row w9 _ 0 _ _ hR9; have z1 := frozen_of_row w9 _ 1 _ _ hR9
      clear hv9 hu9 hap9 hb9 hR9
      go_wp2_with fail
      exact fin_arr rfl rfl rfl HR9.out HV9.out HU9.out HAP9.out HB9.out (by omega)
    · by_cases hs0 : 0 < s.length
      · go_wp2_with fail
        refine (Hid.out HQ).mono ?_
        rintro e w9 ⟨⟨v9, u9, rfl, hv9, hu9, hap9⟩, hb9⟩
        have hR9 := block_below (Hid.out HR) hb9
        have HV9 := Lib.hid hv9; have HU9 := Lib.hid hu9; have HAP9 := Lib.hid hap9; have HR9 := Lib.hid hR9
        have HB9 := Lib.hid (bNext hb9 (Hid.out HB))
        obtain ⟨a9, c9, rfl, -, -⟩ := RowI.slice hv9
        obtain ⟨a8, c8, rfl, -, -⟩ := RowI.slice hu9
        have g0 := cell_of_row w9 _ 0 _ _ _ hR9; have g1 := cell_of_row w9 _ 1 _ _ _ hR9
        have z0 := frozen_of_row w9 _ 0 _ _ hR9; have z1 := frozen_of_row w9 _ 1 _ _ hR9
        clear hv9 hu9 hap9 hb9 hR9
        go_wp2_with fail
        exact fin_arr rfl rfl rfl HR9.out HV9.out HU9.out HAP9.out HB9.out (by omega)
      · have ht0 : (t.length : Int) = 0 := by omega
        go_wp2_with fail
        refine (Hid.out HQ).mono ?_
        rintro e w9 ⟨⟨v9, u9, rfl, hv9, hu9, hap9⟩, hb9⟩
        have hR9 := block_below (Hid.out HR) hb9
        have HV9 := Lib.hid hv9; have HU9 := Lib.hid hu9; have HAP9 := Lib.hid hap9; have HR9 := Lib.hid hR9
        have HB9 := Lib.hid (bNext hb9 (Hid.out HB))
        obtain ⟨a9, c9, rfl, -, -⟩ := RowI.slice hv9
        obtain ⟨a8, c8, rfl, -, -⟩ := RowI.slice hu9
        have g0 := cell_of_row w9 _ 0 _ _ _ hR9; have g1 := cell_of_row w9 _ 1 _ _ _ hR9
        have z0 := frozen_of_row w9 _ 0 _ _ hR9; have z1 := frozen_of_row w9 _ 1 _ _ hR9
        clear hv9 hu9 hap9 hb9 hR9
        go_wp2_with fail
        exact fin_arr rfl rfl rfl HR9.out HV9.out HU9.out HAP9.out HB9.out (by omega)
  have hs0 : ¬ 0 < s.length := fun h => hb (.inl h)
  have ht0 : t.length ≠ 0 := fun h => hb (.inr h)
  have hd1 : d.length = 1 := by
    have e := (right_good hr1).1
    rw [List.eq_nil_of_length_eq_zero (l := s) (by omega)] at e
    have : size [] = (1, 0) := rfl
    rw [this] at e
    injection e with e
    omega
  have ht4 := (right_good hr2).2.len
  have he6 := (right_good hr2).2.le
  obtain ⟨m, c, hm, hm6, hc, hmc, hme, hc6⟩ := first_side hr2 ht0
  have e1 : takeA s d t e (!b) = if (m : Int) < d.headD 0 ∨ d.headD 0 < -(m : Int) then noA 73 else if 0 ≤ d.headD 0 then (if (!b) then cutA t e (d.headD 0) m else cutA t e 0 (d.headD 0)) else if (!b) then cutA t e 0 (m + d.headD 0) else cutA t e (m + d.headD 0) m := by
    unfold takeA; rw [if_neg hb, hm]
  rw [e1]
  have hdn : d.getD 0 0 = d.headD 0 := by cases d <;> rfl
  have htn : t.getD 0 0 = (m : Int) := by rw [← hm]; cases t <;> rfl
  generalize d.headD 0 = n at hdn
  have ht0 : 0 < t.length := by omega
  have ht0I : (0 : Int) < (t.length : Int) := by omega
  have hd0I : (0 : Int) < (d.length : Int) := by omega
  have hte : ¬ (t.length : Int) = 0 := by omega
  have HDN := Lib.hid hdn; have HTN := Lib.hid htn; have HMC := Lib.hid hc; have HME := Lib.hid (And.intro hmc hme); have HMH := Lib.hid hm
  clear e1 hb hdn htn hmc hme hr1 hr2 hm hc hd1
  obtain ⟨R, hR⟩ : ∃ R, (if (m : Int) < n ∨ n < -(m : Int) then noA 73 else if 0 ≤ n then (if (!b) then cutA t e n m else cutA t e 0 n) else if (!b) then cutA t e 0 (m + n) else cutA t e (m + n) m) = R := ⟨_, rfl⟩
  rw [hR]
  have HRX := Lib.hid hR
  clear hR
  have HS0 := Lib.hid hs.src; have HS1 := Lib.hid hd.src; have HS2 := Lib.hid ht.src; have HS3 := Lib.hid he.src
  obtain ⟨a0, c0, rfl, h01, h02, -, h04, -⟩ := hs
  obtain ⟨a1, c1, rfl, h11, h12, -, h14, hin⟩ := hd
  obtain ⟨a2, c2, rfl, h21, h22, -, h24, -⟩ := ht
  obtain ⟨a3, c3, rfl, h31, h32, -, h34, hie⟩ := he
  have h02' : c0 ≤ 9223372036854775807 := h02
  have h12' : c1 ≤ 9223372036854775807 := h12
  have h22' : c2 ≤ 9223372036854775807 := h22
  have h32' : c3 ≤ 9223372036854775807 := h32
  have HM : Hid (s.length ≤ maxLen) := Lib.hid (Nat.le_trans h01 h02)
  have HM2 : Hid (t.length ≤ maxLen) := Lib.hid (Nat.le_trans h21 h22)
  have H0 := Lib.hid h04; have H1 := Lib.hid h14; have HIN := Lib.hid hin
  have H2 := Lib.hid h24; have H3 := Lib.hid h34; have HIE := Lib.hid hie
  have HO := Lib.hid (Duo.mk0 w (.slice a0 s.length c0) (.slice a1 d.length c1) (.slice a2 t.length c2) (.slice a3 e.length c3))
  obtain ⟨r, HRR⟩ : ∃ r, Hid (R = r) := ⟨_, Lib.hid rfl⟩
  rw [HRR.out]
  clear h04 h14 h24 h34 h02 h12 h22 h32 hin hie
  by_cases hn : (m : Int) < n ∨ n < -(m : Int)
  · go_enter Try.func49, Try.ntmps49
    go_upto_region 1 with fail
    refine gen_worldA (fun W => Duo w W (.slice a0 s.length c0) (.slice a1 d.length c1) (.slice a2 t.length c2) (.slice a3 e.length c3)) HO.out ?_
    rintro W1 hO
    have HO2 := Lib.hid hO
    have x0 := hO.c0; have x1 := hO.c1; have x2 := hO.c2; have x3 := hO.c3
    clear HO hO
    obtain ⟨b1, o1, rfl, hc1⟩ := H1.out.atD (k := 0) (by omega)
    obtain ⟨b2, o2, rfl, hc2⟩ := H2.out.atD (k := 0) (by omega)
    rw [HDN.out, Nat.add_zero] at hc1
    rw [HTN.out, Nat.add_zero] at hc2
    have hcc1 := keepCell HO2.out.b hc1; have hcc2 := keepCell HO2.out.b hc2
    have HRR2 : Hid (noA 73 = r) := Lib.hid (by rw [← HRR.out, ← HRX.out, if_pos hn])
    clear hc1 hc2
    go_wp2_with fail
    go_quiet (fail)
    have HO3 := Lib.hid (HO2.out.next (Below.drewN W1 nq))
    have hq := fault_at (W1.drewN nq) w.heap.size HO3.out.b.size 73 r HRR2.out
    have HQ := Lib.hid hq; have HR := Lib.hid HO3.out.r; have HB := Lib.hid HO3.out.b
    clear hq HO2 hcc1 hcc2 x0 x1 x2 x3
    rcases hn with hn | hn
    · go_wp2_with fail
      refine (Hid.out HQ).mono ?_
      rintro e w9 ⟨⟨v9, u9, rfl, hv9, hu9, hap9⟩, hb9⟩
      have hR9 := block_below (Hid.out HR) hb9
      have HV9 := Lib.hid hv9; have HU9 := Lib.hid hu9; have HAP9 := Lib.hid hap9; have HR9 := Lib.hid hR9
      have HB9 := Lib.hid (bNext hb9 (Hid.out HB))
      obtain ⟨a9, c9, rfl, -, -⟩ := RowI.slice hv9
      obtain ⟨a8, c8, rfl, -, -⟩ := RowI.slice hu9
      have g0 := cell_of_row w9 _ 0 _ _ _ hR9; have g1 := cell_of_row w9 _ 1 _ _ _ hR9
      have z0 := frozen_of_row w9 _ 0 _ _ hR9; have z1 := frozen_of_row w9 _ 1 _ _ hR9
      clear hv9 hu9 hap9 hb9 hR9
      go_wp2_with fail
      exact fin_arr rfl rfl rfl HR9.out HV9.out HU9.out HAP9.out HB9.out (by omega)
    · have hn0 : ¬ (m : Int) < n := by omega
      go_wp2_with fail
      refine (Hid.out HQ).mono ?_
      rintro e w9 ⟨⟨v9, u9, rfl, hv9, hu9, hap9⟩, hb9⟩
      have hR9 := block_below (Hid.out HR) hb9
      have HV9 := Lib.hid hv9; have HU9 := Lib.hid hu9; have HAP9 := Lib.hid hap9; have HR9 := Lib.hid hR9
      have HB9 := Lib.hid (bNext hb9 (Hid.out HB))
      obtain ⟨a9, c9, rfl, -, -⟩ := RowI.slice hv9
      obtain ⟨a8, c8, rfl, -, -⟩ := RowI.slice hu9
      have g0 := cell_of_row w9 _ 0 _ _ _ hR9; have g1 := cell_of_row w9 _ 1 _ _ _ hR9
      have z0 := frozen_of_row w9 _ 0 _ _ hR9; have z1 := frozen_of_row w9 _ 1 _ _ hR9
      clear hv9 hu9 hap9 hb9 hR9
      go_wp2_with fail
      exact fin_arr rfl rfl rfl HR9.out HV9.out HU9.out HAP9.out HB9.out (by omega)
  · have HRX2 : Hid ((if 0 ≤ n then (if (!b) then cutA t e n m else cutA t e 0 n) else if (!b) then cutA t e 0 (m + n) else cutA t e (m + n) m) = r) := Lib.hid (by rw [← HRR.out, ← HRX.out, if_neg hn])
    have hn1 : ¬ (m : Int) < n := fun h => hn (.inl h)
    have hn2 : ¬ n < -(m : Int) := fun h => hn (.inr h)
    have hall : m * c = e.length := by
      by_cases h : m = 0
      · rw [h, Nat.zero_mul, HME.out.2 h]
      · exact HME.out.1 h
    have hcI : (e.length : Int) / (m : Int) = (c : Int) := HMC.out
    have hmul : ∀ j, j ≤ m → j * c ≤ e.length := fun j hj => by rw [← hall]; exact Nat.mul_le_mul_right _ hj
    clear hn HRR HRX HMC
    by_cases hn0 : 0 ≤ n
    · obtain ⟨k, rfl⟩ := Int.eq_ofNat_of_zero_le hn0
      have hkm : k ≤ m := by omega
      have hn3 : ¬ (k : Int) < 0 := by omega
      obtain ⟨h, hh⟩ : ∃ h, k * c = h := ⟨_, rfl⟩
      have hhI : (k : Int) * (c : Int) = (h : Int) := by exact_mod_cast hh
      have hle : h ≤ e.length := hh ▸ hmul k hkm
      rw [if_pos hn0] at HRX2
      cases b with
      | true =>
        obtain ⟨D, hD⟩ : ∃ D, (e.drop 0).take (h - 0) = D := ⟨_, rfl⟩
        have HD := Lib.hid hD
        have HDL : Hid (D.length = h - 0) := Lib.hid (by rw [← hD]; simp; omega)
        have HRR : Hid (okA ((k : Int) :: t.tail) D = r) := Lib.hid (by
          have := cut_eq (t := t) (e := e) HMH.out hcI (Nat.zero_mul c) hh (Nat.zero_le k)
          rw [← HRX2.out, ← hD]
          simpa using this.symm)
        clear hD hh HRX2 hmul hall
        go_enter Try.func49, Try.ntmps49
        go_upto_region 1 with fail
        refine gen_worldA (fun W => Duo w W (.slice a0 s.length c0) (.slice a1 d.length c1) (.slice a2 t.length c2) (.slice a3 e.length c3)) HO.out ?_
        rintro W1 hO
        have HO2 := Lib.hid hO
        have x0 := hO.c0; have x1 := hO.c1; have x2 := hO.c2; have x3 := hO.c3
        clear HO hO
        obtain ⟨b1, o1, rfl, hc1⟩ := H1.out.atD (k := 0) (by omega)
        obtain ⟨b2, o2, rfl, hc2⟩ := H2.out.atD (k := 0) (by omega)
        rw [HDN.out, Nat.add_zero] at hc1
        rw [HTN.out, Nat.add_zero] at hc2
        have hcc1 := keepCell HO2.out.b hc1; have hcc2 := keepCell HO2.out.b hc2
        clear hc1 hc2
        go_wp2_with fail
        go_quiet (fail)
        clear hcc1 hcc2 x0 x1 x2 x3
        go_upto_region 13 with fail
        refine gen_worldA (fun W => Duo w W (.slice a0 s.length c0) (.slice (some ⟨b1, o1, none⟩) d.length c1) (.slice (some ⟨b2, o2, none⟩) t.length c2) (.slice a3 e.length c3)) (HO2.out.next (Below.drewN _ _)) ?_
        rintro W4 hO
        have hq := clone_any W4 (some ⟨b2, o2, none⟩) c2 t (by omega) (H2.out.below hO.b (Nat.le_refl _))
        have HQ := Lib.hid hq; have HO4 := Lib.hid hO
        have x2 := hO.c2
        clear hq hO HO2
        go_wp2_with fail
        refine HQ.out.mono ?_
        rintro e' W5 ⟨⟨v5, rfl, hv5⟩, hb5⟩
        have hO5 := HO4.out.next hb5
        have hv5 := hv5.mono HO4.out.b.size
        obtain ⟨G, c5, rfl, -, hG⟩ := hv5.form ht0
        have hf5 := hv5.fr 0
        have hc5 := hv5.at (k := 0) ht0
        have hs5 := hv5.set 0 (k : Int)
        rw [set_zero (by omega)] at hs5
        have HO5 := Lib.hid hO5; have HO6 := Lib.hid (Duo.row2 (k := 0) (x := .int .i64 (k : Int)) hO5 hv5); have HS := Lib.hid hs5
        clear x2
        have x3 := hO5.c3
        clear HQ HO4 hb5 hO5 hv5 hs5
        go_upto_region 15 with fail
        refine gen_worldA (fun W => Duo w W (.slice a0 s.length c0) (.slice (some ⟨b1, o1, none⟩) d.length c1) (.slice (some ⟨b2, o2, none⟩) t.length c2) (.slice a3 e.length c3) ∧ RowI w.heap.size W (.slice (some ⟨G, 0, none⟩) t.length c5) ((k : Int) :: t.tail)) ⟨HO6.out, HS.out⟩ ?_
        rintro W6 ⟨hO, hv6⟩
        have HO7 := Lib.hid hO; have HV6 := Lib.hid hv6
        have hi6 := hv6.ints
        have hl6 := hv6.len
        clear x3 hf5 hc5 HO5 HO6 HS
        have x3 := hO.c3
        have hb7 := fun W (h : Below W6.heap.size W6 W) => good_any W w.heap.size (HO7.out.next h).b.size (some ⟨G, 0, none⟩) t.length c5 ((k : Int) :: t.tail) D
        have HG7 := Lib.hid hb7
        clear hb7
        by_cases hm0 : m = 0
        · have hm1 : ((m : Int) == 0) = true := by rw [hm0]; rfl
          have hDn : D = [] := List.eq_nil_of_length_eq_zero (by have := HDL.out; have := HME.out.2 hm0; omega)
          have hq := HG7.out W6 (Below.refl _ _) (.slice none 0 0) hl6.symm (by omega) hi6 (by rw [hDn]; exact RowI.nil _ _)
          rw [HRR.out] at hq
          have HQ := Lib.hid hq; have HR := Lib.hid hO.r; have HB := Lib.hid hO.b
          clear hq hO hv6 hi6 hl6 HG7 hm0 hDn
          go_wp2_with fail
          refine (Hid.out HQ).mono ?_
          rintro e w9 ⟨⟨v9, u9, rfl, hv9, hu9, hap9⟩, hb9⟩
          have hR9 := block_below (Hid.out HR) hb9
          have HV9 := Lib.hid hv9; have HU9 := Lib.hid hu9; have HAP9 := Lib.hid hap9; have HR9 := Lib.hid hR9
          have HB9 := Lib.hid (bNext hb9 (Hid.out HB))
          obtain ⟨a9, c9, rfl, -, -⟩ := RowI.slice hv9
          obtain ⟨a8, c8, rfl, -, -⟩ := RowI.slice hu9
          have g0 := cell_of_row w9 _ 0 _ _ _ hR9; have g1 := cell_of_row w9 _ 1 _ _ _ hR9
          have z0 := frozen_of_row w9 _ 0 _ _ hR9; have z1 := frozen_of_row w9 _ 1 _ _ hR9
          clear hv9 hu9 hap9 hb9 hR9
          go_wp2_with fail
          exact fin_arr rfl rfl rfl HR9.out HV9.out HU9.out HAP9.out HB9.out (by omega)
        · have hm1 : ((m : Int) == 0) = false := by rw [beq_eq_false_iff_ne]; omega
          have sl2 : ∀ W, (Instr.sliceAt 22 (.slice a3 e.length c3) (some (.int .i64 (0 : Int))) (some (.int .i64 (h : Int))) none).run Try.prog W = .ok (.slice (subA a3 c3 0) (h - 0) (c3 - 0)) W := fun W => by
            have := slice_lh W a3 e.length c3 .i64 .i64 (0 : Int) (h : Int) (by omega) (by omega) (by omega)
            simpa using this
          have hcut : IntsAt .i64 W6 (subA a3 c3 0) D := by rw [← HD.out]; exact (H3.out.below hO.b (Nat.le_refl _)).cut h31
          have hcl := clone_n W6 (subA a3 c3 0) (h - 0) (c3 - 0) D HDL.out.symm (by have := HDL.out; omega) hcut
          have HCL := Lib.hid hcl; have HI6 := Lib.hid hi6; have HL6 := Lib.hid hl6
          clear hO hv6 hi6 hl6 hcut hcl
          go_wp2_with fail
          refine HCL.out.mono ?_
          rintro e' W8 ⟨⟨v8, rfl, hv8⟩, hb8⟩
          have hv8 := hv8.mono HO7.out.b.size
          have HO8 := Lib.hid (HO7.out.next hb8)
          obtain ⟨a8, c8, e8, -, -⟩ := hv8.slice
          have hq := HG7.out W8 hb8 v8 HL6.out.symm (by have := HL6.out; omega) (HI6.out.below hb8 (Nat.le_refl _)) hv8
          rw [HRR.out] at hq
          rw [HDL.out] at e8
          subst e8
          have HQ := Lib.hid hq; have HR := Lib.hid HO8.out.r; have HB := Lib.hid HO8.out.b
          clear hq hv8 hb8 HCL HO7 HV6 HG7 HI6 HL6 x3 sl2
          go_wp2_with fail
          refine (Hid.out HQ).mono ?_
          rintro e w9 ⟨⟨v9, u9, rfl, hv9, hu9, hap9⟩, hb9⟩
          have hR9 := block_below (Hid.out HR) hb9
          have HV9 := Lib.hid hv9; have HU9 := Lib.hid hu9; have HAP9 := Lib.hid hap9; have HR9 := Lib.hid hR9
          have HB9 := Lib.hid (bNext hb9 (Hid.out HB))
          obtain ⟨a9, c9, rfl, -, -⟩ := RowI.slice hv9
          obtain ⟨a8, c8, rfl, -, -⟩ := RowI.slice hu9
          have g0 := cell_of_row w9 _ 0 _ _ _ hR9; have g1 := cell_of_row w9 _ 1 _ _ _ hR9
          have z0 := frozen_of_row w9 _ 0 _ _ hR9; have z1 := frozen_of_row w9 _ 1 _ _ hR9
          clear hv9 hu9 hap9 hb9 hR9
          go_wp2_with fail
          exact fin_arr rfl rfl rfl HR9.out HV9.out HU9.out HAP9.out HB9.out (by omega)
        done
      | false =>
        obtain ⟨D, hD⟩ : ∃ D, (e.drop h).take (e.length - h) = D := ⟨_, rfl⟩
        have HD := Lib.hid hD
        have HDL : Hid (D.length = e.length - h) := Lib.hid (by rw [← hD]; simp)
        have HRR : Hid (okA (((m : Int) - (k : Int)) :: t.tail) D = r) := Lib.hid (by
          rw [← HRX2.out, ← hD]
          exact (cut_eq (t := t) (e := e) HMH.out hcI hh hall hkm).symm)
        have hmI : (m : Int) * (c : Int) = (e.length : Int) := by exact_mod_cast hall
        clear hD hh HRX2 hmul hall
        go_enter Try.func49, Try.ntmps49
        go_upto_region 1 with fail
        refine gen_worldA (fun W => Duo w W (.slice a0 s.length c0) (.slice a1 d.length c1) (.slice a2 t.length c2) (.slice a3 e.length c3)) HO.out ?_
        rintro W1 hO
        have HO2 := Lib.hid hO
        have x0 := hO.c0; have x1 := hO.c1; have x2 := hO.c2; have x3 := hO.c3
        clear HO hO
        obtain ⟨b1, o1, rfl, hc1⟩ := H1.out.atD (k := 0) (by omega)
        obtain ⟨b2, o2, rfl, hc2⟩ := H2.out.atD (k := 0) (by omega)
        rw [HDN.out, Nat.add_zero] at hc1
        rw [HTN.out, Nat.add_zero] at hc2
        have hcc1 := keepCell HO2.out.b hc1; have hcc2 := keepCell HO2.out.b hc2
        clear hc1 hc2
        go_wp2_with fail
        go_quiet (fail)
        clear hcc1 hcc2 x0 x1 x2 x3
        go_upto_region 13 with fail
        refine gen_worldA (fun W => Duo w W (.slice a0 s.length c0) (.slice (some ⟨b1, o1, none⟩) d.length c1) (.slice (some ⟨b2, o2, none⟩) t.length c2) (.slice a3 e.length c3)) (HO2.out.next (Below.drewN _ _)) ?_
        rintro W4 hO
        have hq := clone_any W4 (some ⟨b2, o2, none⟩) c2 t (by omega) (H2.out.below hO.b (Nat.le_refl _))
        have HQ := Lib.hid hq; have HO4 := Lib.hid hO
        have x2 := hO.c2
        clear hq hO HO2
        go_wp2_with fail
        refine HQ.out.mono ?_
        rintro e' W5 ⟨⟨v5, rfl, hv5⟩, hb5⟩
        have hO5 := HO4.out.next hb5
        have hv5 := hv5.mono HO4.out.b.size
        obtain ⟨G, c5, rfl, -, hG⟩ := hv5.form ht0
        have hf5 := hv5.fr 0
        have hc5 := hv5.at (k := 0) ht0
        have hs5 := hv5.set 0 ((m : Int) - (k : Int))
        rw [set_zero (by omega)] at hs5
        have HO5 := Lib.hid hO5; have HO6 := Lib.hid (Duo.row2 (k := 0) (x := .int .i64 ((m : Int) - (k : Int))) hO5 hv5); have HS := Lib.hid hs5
        clear x2
        have x3 := hO5.c3
        clear HQ HO4 hb5 hO5 hv5 hs5
        go_upto_region 15 with fail
        refine gen_worldA (fun W => Duo w W (.slice a0 s.length c0) (.slice (some ⟨b1, o1, none⟩) d.length c1) (.slice (some ⟨b2, o2, none⟩) t.length c2) (.slice a3 e.length c3) ∧ RowI w.heap.size W (.slice (some ⟨G, 0, none⟩) t.length c5) (((m : Int) - (k : Int)) :: t.tail)) ⟨HO6.out, HS.out⟩ ?_
        rintro W6 ⟨hO, hv6⟩
        have HO7 := Lib.hid hO; have HV6 := Lib.hid hv6
        have hi6 := hv6.ints
        have hl6 := hv6.len
        clear x3 hf5 hc5 HO5 HO6 HS
        have x3 := hO.c3
        have hb7 := fun W (h : Below W6.heap.size W6 W) => good_any W w.heap.size (HO7.out.next h).b.size (some ⟨G, 0, none⟩) t.length c5 (((m : Int) - (k : Int)) :: t.tail) D
        have HG7 := Lib.hid hb7
        clear hb7
        by_cases hm0 : m = 0
        · have hm1 : ((m : Int) == 0) = true := by rw [hm0]; rfl
          have hDn : D = [] := List.eq_nil_of_length_eq_zero (by have := HDL.out; have := HME.out.2 hm0; omega)
          have hq := HG7.out W6 (Below.refl _ _) (.slice none 0 0) hl6.symm (by omega) hi6 (by rw [hDn]; exact RowI.nil _ _)
          rw [HRR.out] at hq
          have HQ := Lib.hid hq; have HR := Lib.hid hO.r; have HB := Lib.hid hO.b
          clear hq hO hv6 hi6 hl6 HG7 hm0 hDn
          go_wp2_with fail
          refine (Hid.out HQ).mono ?_
          rintro e w9 ⟨⟨v9, u9, rfl, hv9, hu9, hap9⟩, hb9⟩
          have hR9 := block_below (Hid.out HR) hb9
          have HV9 := Lib.hid hv9; have HU9 := Lib.hid hu9; have HAP9 := Lib.hid hap9; have HR9 := Lib.hid hR9
          have HB9 := Lib.hid (bNext hb9 (Hid.out HB))
          obtain ⟨a9, c9, rfl, -, -⟩ := RowI.slice hv9
          obtain ⟨a8, c8, rfl, -, -⟩ := RowI.slice hu9
          have g0 := cell_of_row w9 _ 0 _ _ _ hR9; have g1 := cell_of_row w9 _ 1 _ _ _ hR9
          have z0 := frozen_of_row w9 _ 0 _ _ hR9; have z1 := frozen_of_row w9 _ 1 _ _ hR9
          clear hv9 hu9 hap9 hb9 hR9
          go_wp2_with fail
          exact fin_arr rfl rfl rfl HR9.out HV9.out HU9.out HAP9.out HB9.out (by omega)
        · have hm1 : ((m : Int) == 0) = false := by rw [beq_eq_false_iff_ne]; omega
          have sl2 : ∀ W, (Instr.sliceAt 22 (.slice a3 e.length c3) (some (.int .i64 (h : Int))) (some (.int .i64 (e.length : Int))) none).run Try.prog W = .ok (.slice (subA a3 c3 h) (e.length - h) (c3 - h)) W := fun W => by
            have := slice_lh W a3 e.length c3 .i64 .i64 (h : Int) (e.length : Int) (by omega) (by omega) (by omega)
            simpa using this
          have hcut : IntsAt .i64 W6 (subA a3 c3 h) D := by rw [← HD.out]; exact (H3.out.below hO.b (Nat.le_refl _)).cut h31
          have hcl := clone_n W6 (subA a3 c3 h) (e.length - h) (c3 - h) D HDL.out.symm (by have := HDL.out; omega) hcut
          have HCL := Lib.hid hcl; have HI6 := Lib.hid hi6; have HL6 := Lib.hid hl6
          clear hO hv6 hi6 hl6 hcut hcl
          go_wp2_with fail
          refine HCL.out.mono ?_
          rintro e' W8 ⟨⟨v8, rfl, hv8⟩, hb8⟩
          have hv8 := hv8.mono HO7.out.b.size
          have HO8 := Lib.hid (HO7.out.next hb8)
          obtain ⟨a8, c8, e8, -, -⟩ := hv8.slice
          have hq := HG7.out W8 hb8 v8 HL6.out.symm (by have := HL6.out; omega) (HI6.out.below hb8 (Nat.le_refl _)) hv8
          rw [HRR.out] at hq
          rw [HDL.out] at e8
          subst e8
          have HQ := Lib.hid hq; have HR := Lib.hid HO8.out.r; have HB := Lib.hid HO8.out.b
          clear hq hv8 hb8 HCL HO7 HV6 HG7 HI6 HL6 x3 sl2
          go_wp2_with fail
          refine (Hid.out HQ).mono ?_
          rintro e w9 ⟨⟨v9, u9, rfl, hv9, hu9, hap9⟩, hb9⟩
          have hR9 := block_below (Hid.out HR) hb9
          have HV9 := Lib.hid hv9; have HU9 := Lib.hid hu9; have HAP9 := Lib.hid hap9; have HR9 := Lib.hid hR9
          have HB9 := Lib.hid (bNext hb9 (Hid.out HB))
          obtain ⟨a9, c9, rfl, -, -⟩ := RowI.slice hv9
          obtain ⟨a8, c8, rfl, -, -⟩ := RowI.slice hu9
          have g0 := cell_of_row w9 _ 0 _ _ _ hR9; have g1 := cell_of_row w9 _ 1 _ _ _ hR9
          have z0 := frozen_of_row w9 _ 0 _ _ hR9; have z1 := frozen_of_row w9 _ 1 _ _ hR9
          clear hv9 hu9 hap9 hb9 hR9
          go_wp2_with fail
          exact fin_arr rfl rfl rfl HR9.out HV9.out HU9.out HAP9.out HB9.out (by omega)
        done
    · have hn3 : n < 0 := by omega
      obtain ⟨k, hk⟩ : ∃ k : Nat, (m : Int) + n = (k : Int) := ⟨((m : Int) + n).toNat, by omega⟩
      have hkm : k ≤ m := by omega
      obtain ⟨h, hh⟩ : ∃ h, k * c = h := ⟨_, rfl⟩
      have hhI : (k : Int) * (c : Int) = (h : Int) := by exact_mod_cast hh
      have hle : h ≤ e.length := hh ▸ hmul k hkm
      rw [if_neg hn0, hk] at HRX2
      cases b with
      | true =>
        obtain ⟨D, hD⟩ : ∃ D, (e.drop h).take (e.length - h) = D := ⟨_, rfl⟩
        have HD := Lib.hid hD
        have HDL : Hid (D.length = e.length - h) := Lib.hid (by rw [← hD]; simp)
        have HRR : Hid (okA (((m : Int) - (k : Int)) :: t.tail) D = r) := Lib.hid (by
          rw [← HRX2.out, ← hD]
          exact (cut_eq (t := t) (e := e) HMH.out hcI hh hall hkm).symm)
        have hmI : (m : Int) * (c : Int) = (e.length : Int) := by exact_mod_cast hall
        clear hD hh HRX2 hmul hall
        go_enter Try.func49, Try.ntmps49
        go_upto_region 1 with fail
        refine gen_worldA (fun W => Duo w W (.slice a0 s.length c0) (.slice a1 d.length c1) (.slice a2 t.length c2) (.slice a3 e.length c3)) HO.out ?_
        rintro W1 hO
        have HO2 := Lib.hid hO
        have x0 := hO.c0; have x1 := hO.c1; have x2 := hO.c2; have x3 := hO.c3
        clear HO hO
        obtain ⟨b1, o1, rfl, hc1⟩ := H1.out.atD (k := 0) (by omega)
        obtain ⟨b2, o2, rfl, hc2⟩ := H2.out.atD (k := 0) (by omega)
        rw [HDN.out, Nat.add_zero] at hc1
        rw [HTN.out, Nat.add_zero] at hc2
        have hcc1 := keepCell HO2.out.b hc1; have hcc2 := keepCell HO2.out.b hc2
        clear hc1 hc2
        go_wp2_with fail
        go_quiet (fail)
        clear hcc1 hcc2 x0 x1 x2 x3
        go_upto_region 13 with fail
        refine gen_worldA (fun W => Duo w W (.slice a0 s.length c0) (.slice (some ⟨b1, o1, none⟩) d.length c1) (.slice (some ⟨b2, o2, none⟩) t.length c2) (.slice a3 e.length c3)) (HO2.out.next (Below.drewN _ _)) ?_
        rintro W4 hO
        have hq := clone_any W4 (some ⟨b2, o2, none⟩) c2 t (by omega) (H2.out.below hO.b (Nat.le_refl _))
        have HQ := Lib.hid hq; have HO4 := Lib.hid hO
        have x2 := hO.c2
        clear hq hO HO2
        go_wp2_with fail
        refine HQ.out.mono ?_
        rintro e' W5 ⟨⟨v5, rfl, hv5⟩, hb5⟩
        have hO5 := HO4.out.next hb5
        have hv5 := hv5.mono HO4.out.b.size
        obtain ⟨G, c5, rfl, -, hG⟩ := hv5.form ht0
        have hf5 := hv5.fr 0
        have hc5 := hv5.at (k := 0) ht0
        have hs5 := hv5.set 0 ((m : Int) - (k : Int))
        rw [set_zero (by omega)] at hs5
        have HO5 := Lib.hid hO5; have HO6 := Lib.hid (Duo.row2 (k := 0) (x := .int .i64 ((m : Int) - (k : Int))) hO5 hv5); have HS := Lib.hid hs5
        clear x2
        have x3 := hO5.c3
        clear HQ HO4 hb5 hO5 hv5 hs5
        go_upto_region 15 with fail
        refine gen_worldA (fun W => Duo w W (.slice a0 s.length c0) (.slice (some ⟨b1, o1, none⟩) d.length c1) (.slice (some ⟨b2, o2, none⟩) t.length c2) (.slice a3 e.length c3) ∧ RowI w.heap.size W (.slice (some ⟨G, 0, none⟩) t.length c5) (((m : Int) - (k : Int)) :: t.tail)) ⟨HO6.out, HS.out⟩ ?_
        rintro W6 ⟨hO, hv6⟩
        have HO7 := Lib.hid hO; have HV6 := Lib.hid hv6
        have hi6 := hv6.ints
        have hl6 := hv6.len
        clear x3 hf5 hc5 HO5 HO6 HS
        have x3 := hO.c3
        have hb7 := fun W (h : Below W6.heap.size W6 W) => good_any W w.heap.size (HO7.out.next h).b.size (some ⟨G, 0, none⟩) t.length c5 (((m : Int) - (k : Int)) :: t.tail) D
        have HG7 := Lib.hid hb7
        clear hb7
        by_cases hm0 : m = 0
        · have hm1 : ((m : Int) == 0) = true := by rw [hm0]; rfl
          have hDn : D = [] := List.eq_nil_of_length_eq_zero (by have := HDL.out; have := HME.out.2 hm0; omega)
          have hq := HG7.out W6 (Below.refl _ _) (.slice none 0 0) hl6.symm (by omega) hi6 (by rw [hDn]; exact RowI.nil _ _)
          rw [HRR.out] at hq
          have HQ := Lib.hid hq; have HR := Lib.hid hO.r; have HB := Lib.hid hO.b
          clear hq hO hv6 hi6 hl6 HG7 hm0 hDn
          go_wp2_with fail
          refine (Hid.out HQ).mono ?_
          rintro e w9 ⟨⟨v9, u9, rfl, hv9, hu9, hap9⟩, hb9⟩
          have hR9 := block_below (Hid.out HR) hb9
          have HV9 := Lib.hid hv9; have HU9 := Lib.hid hu9; have HAP9 := Lib.hid hap9; have HR9 := Lib.hid hR9
          have HB9 := Lib.hid (bNext hb9 (Hid.out HB))
          obtain ⟨a9, c9, rfl, -, -⟩ := RowI.slice hv9
          obtain ⟨a8, c8, rfl, -, -⟩ := RowI.slice hu9
          have g0 := cell_of_row w9 _ 0 _ _ _ hR9; have g1 := cell_of_row w9 _ 1 _ _ _ hR9
          have z0 := frozen_of_row w9 _ 0 _ _ hR9; have z1 := frozen_of_row w9 _ 1 _ _ hR9
          clear hv9 hu9 hap9 hb9 hR9
          go_wp2_with fail
          exact fin_arr rfl rfl rfl HR9.out HV9.out HU9.out HAP9.out HB9.out (by omega)
        · have hm1 : ((m : Int) == 0) = false := by rw [beq_eq_false_iff_ne]; omega
          have sl2 : ∀ W, (Instr.sliceAt 22 (.slice a3 e.length c3) (some (.int .i64 (h : Int))) (some (.int .i64 (e.length : Int))) none).run Try.prog W = .ok (.slice (subA a3 c3 h) (e.length - h) (c3 - h)) W := fun W => by
            have := slice_lh W a3 e.length c3 .i64 .i64 (h : Int) (e.length : Int) (by omega) (by omega) (by omega)
            simpa using this
          have hcut : IntsAt .i64 W6 (subA a3 c3 h) D := by rw [← HD.out]; exact (H3.out.below hO.b (Nat.le_refl _)).cut h31
          have hcl := clone_n W6 (subA a3 c3 h) (e.length - h) (c3 - h) D HDL.out.symm (by have := HDL.out; omega) hcut
          have HCL := Lib.hid hcl; have HI6 := Lib.hid hi6; have HL6 := Lib.hid hl6
          clear hO hv6 hi6 hl6 hcut hcl
          go_wp2_with fail
          refine HCL.out.mono ?_
          rintro e' W8 ⟨⟨v8, rfl, hv8⟩, hb8⟩
          have hv8 := hv8.mono HO7.out.b.size
          have HO8 := Lib.hid (HO7.out.next hb8)
          obtain ⟨a8, c8, e8, -, -⟩ := hv8.slice
          have hq := HG7.out W8 hb8 v8 HL6.out.symm (by have := HL6.out; omega) (HI6.out.below hb8 (Nat.le_refl _)) hv8
          rw [HRR.out] at hq
          rw [HDL.out] at e8
          subst e8
          have HQ := Lib.hid hq; have HR := Lib.hid HO8.out.r; have HB := Lib.hid HO8.out.b
          clear hq hv8 hb8 HCL HO7 HV6 HG7 HI6 HL6 x3 sl2
          go_wp2_with fail
          refine (Hid.out HQ).mono ?_
          rintro e w9 ⟨⟨v9, u9, rfl, hv9, hu9, hap9⟩, hb9⟩
          have hR9 := block_below (Hid.out HR) hb9
          have HV9 := Lib.hid hv9; have HU9 := Lib.hid hu9; have HAP9 := Lib.hid hap9; have HR9 := Lib.hid hR9
          have HB9 := Lib.hid (bNext hb9 (Hid.out HB))
          obtain ⟨a9, c9, rfl, -, -⟩ := RowI.slice hv9
          obtain ⟨a8, c8, rfl, -, -⟩ := RowI.slice hu9
          have g0 := cell_of_row w9 _ 0 _ _ _ hR9; have g1 := cell_of_row w9 _ 1 _ _ _ hR9
          have z0 := frozen_of_row w9 _ 0 _ _ hR9; have z1 := frozen_of_row w9 _ 1 _ _ hR9
          clear hv9 hu9 hap9 hb9 hR9
          go_wp2_with fail
          exact fin_arr rfl rfl rfl HR9.out HV9.out HU9.out HAP9.out HB9.out (by omega)
        done
      | false =>
        obtain ⟨D, hD⟩ : ∃ D, (e.drop 0).take (h - 0) = D := ⟨_, rfl⟩
        have HD := Lib.hid hD
        have HDL : Hid (D.length = h - 0) := Lib.hid (by rw [← hD]; simp; omega)
        have HRR : Hid (okA ((k : Int) :: t.tail) D = r) := Lib.hid (by
          have := cut_eq (t := t) (e := e) HMH.out hcI (Nat.zero_mul c) hh (Nat.zero_le k)
          rw [← HRX2.out, ← hD]
          simpa using this.symm)
        clear hD hh HRX2 hmul hall
        go_enter Try.func49, Try.ntmps49
        go_upto_region 1 with fail
        refine gen_worldA (fun W => Duo w W (.slice a0 s.length c0) (.slice a1 d.length c1) (.slice a2 t.length c2) (.slice a3 e.length c3)) HO.out ?_
        rintro W1 hO
        have HO2 := Lib.hid hO
        have x0 := hO.c0; have x1 := hO.c1; have x2 := hO.c2; have x3 := hO.c3
        clear HO hO
        obtain ⟨b1, o1, rfl, hc1⟩ := H1.out.atD (k := 0) (by omega)
        obtain ⟨b2, o2, rfl, hc2⟩ := H2.out.atD (k := 0) (by omega)
        rw [HDN.out, Nat.add_zero] at hc1
        rw [HTN.out, Nat.add_zero] at hc2
        have hcc1 := keepCell HO2.out.b hc1; have hcc2 := keepCell HO2.out.b hc2
        clear hc1 hc2
        go_wp2_with fail
        go_quiet (fail)
        clear hcc1 hcc2 x0 x1 x2 x3
        go_upto_region 13 with fail
        refine gen_worldA (fun W => Duo w W (.slice a0 s.length c0) (.slice (some ⟨b1, o1, none⟩) d.length c1) (.slice (some ⟨b2, o2, none⟩) t.length c2) (.slice a3 e.length c3)) (HO2.out.next (Below.drewN _ _)) ?_
        rintro W4 hO
        have hq := clone_any W4 (some ⟨b2, o2, none⟩) c2 t (by omega) (H2.out.below hO.b (Nat.le_refl _))
        have HQ := Lib.hid hq; have HO4 := Lib.hid hO
        have x2 := hO.c2
        clear hq hO HO2
        go_wp2_with fail
        refine HQ.out.mono ?_
        rintro e' W5 ⟨⟨v5, rfl, hv5⟩, hb5⟩
        have hO5 := HO4.out.next hb5
        have hv5 := hv5.mono HO4.out.b.size
        obtain ⟨G, c5, rfl, -, hG⟩ := hv5.form ht0
        have hf5 := hv5.fr 0
        have hc5 := hv5.at (k := 0) ht0
        have hs5 := hv5.set 0 (k : Int)
        rw [set_zero (by omega)] at hs5
        have HO5 := Lib.hid hO5; have HO6 := Lib.hid (Duo.row2 (k := 0) (x := .int .i64 (k : Int)) hO5 hv5); have HS := Lib.hid hs5
        clear x2
        have x3 := hO5.c3
        clear HQ HO4 hb5 hO5 hv5 hs5
        go_upto_region 15 with fail
        refine gen_worldA (fun W => Duo w W (.slice a0 s.length c0) (.slice (some ⟨b1, o1, none⟩) d.length c1) (.slice (some ⟨b2, o2, none⟩) t.length c2) (.slice a3 e.length c3) ∧ RowI w.heap.size W (.slice (some ⟨G, 0, none⟩) t.length c5) ((k : Int) :: t.tail)) ⟨HO6.out, HS.out⟩ ?_
        rintro W6 ⟨hO, hv6⟩
        have HO7 := Lib.hid hO; have HV6 := Lib.hid hv6
        have hi6 := hv6.ints
        have hl6 := hv6.len
        clear x3 hf5 hc5 HO5 HO6 HS
        have x3 := hO.c3
        have hb7 := fun W (h : Below W6.heap.size W6 W) => good_any W w.heap.size (HO7.out.next h).b.size (some ⟨G, 0, none⟩) t.length c5 ((k : Int) :: t.tail) D
        have HG7 := Lib.hid hb7
        clear hb7
        by_cases hm0 : m = 0
        · have hm1 : ((m : Int) == 0) = true := by rw [hm0]; rfl
          have hDn : D = [] := List.eq_nil_of_length_eq_zero (by have := HDL.out; have := HME.out.2 hm0; omega)
          have hq := HG7.out W6 (Below.refl _ _) (.slice none 0 0) hl6.symm (by omega) hi6 (by rw [hDn]; exact RowI.nil _ _)
          rw [HRR.out] at hq
          have HQ := Lib.hid hq; have HR := Lib.hid hO.r; have HB := Lib.hid hO.b
          clear hq hO hv6 hi6 hl6 HG7 hm0 hDn
          go_wp2_with fail
          refine (Hid.out HQ).mono ?_
          rintro e w9 ⟨⟨v9, u9, rfl, hv9, hu9, hap9⟩, hb9⟩
          have hR9 := block_below (Hid.out HR) hb9
          have HV9 := Lib.hid hv9; have HU9 := Lib.hid hu9; have HAP9 := Lib.hid hap9; have HR9 := Lib.hid hR9
          have HB9 := Lib.hid (bNext hb9 (Hid.out HB))
          obtain ⟨a9, c9, rfl, -, -⟩ := RowI.slice hv9
          obtain ⟨a8, c8, rfl, -, -⟩ := RowI.slice hu9
          have g0 := cell_of_row w9 _ 0 _ _ _ hR9; have g1 := cell_of_row w9 _ 1 _ _ _ hR9
          have z0 := frozen_of_row w9 _ 0 _ _ hR9; have z1 := frozen_of_row w9 _ 1 _ _ hR9
          clear hv9 hu9 hap9 hb9 hR9
          go_wp2_with fail
          exact fin_arr rfl rfl rfl HR9.out HV9.out HU9.out HAP9.out HB9.out (by omega)
        · have hm1 : ((m : Int) == 0) = false := by rw [beq_eq_false_iff_ne]; omega
          have sl2 : ∀ W, (Instr.sliceAt 22 (.slice a3 e.length c3) (some (.int .i64 (0 : Int))) (some (.int .i64 (h : Int))) none).run Try.prog W = .ok (.slice (subA a3 c3 0) (h - 0) (c3 - 0)) W := fun W => by
            have := slice_lh W a3 e.length c3 .i64 .i64 (0 : Int) (h : Int) (by omega) (by omega) (by omega)
            simpa using this
          have hcut : IntsAt .i64 W6 (subA a3 c3 0) D := by rw [← HD.out]; exact (H3.out.below hO.b (Nat.le_refl _)).cut h31
          have hcl := clone_n W6 (subA a3 c3 0) (h - 0) (c3 - 0) D HDL.out.symm (by have := HDL.out; omega) hcut
          have HCL := Lib.hid hcl; have HI6 := Lib.hid hi6; have HL6 := Lib.hid hl6
          clear hO hv6 hi6 hl6 hcut hcl
          go_wp2_with fail
          refine HCL.out.mono ?_
          rintro e' W8 ⟨⟨v8, rfl, hv8⟩, hb8⟩
          have hv8 := hv8.mono HO7.out.b.size
          have HO8 := Lib.hid (HO7.out.next hb8)
          obtain ⟨a8, c8, e8, -, -⟩ := hv8.slice
          have hq := HG7.out W8 hb8 v8 HL6.out.symm (by have := HL6.out; omega) (HI6.out.below hb8 (Nat.le_refl _)) hv8
          rw [HRR.out] at hq
          rw [HDL.out] at e8
          subst e8
          have HQ := Lib.hid hq; have HR := Lib.hid HO8.out.r; have HB := Lib.hid HO8.out.b
          clear hq hv8 hb8 HCL HO7 HV6 HG7 HI6 HL6 x3 sl2
          go_wp2_with fail
          refine (Hid.out HQ).mono ?_
          rintro e w9 ⟨⟨v9, u9, rfl, hv9, hu9, hap9⟩, hb9⟩
          have hR9 := block_below (Hid.out HR) hb9
          have HV9 := Lib.hid hv9; have HU9 := Lib.hid hu9; have HAP9 := Lib.hid hap9; have HR9 := Lib.hid hR9
          have HB9 := Lib.hid (bNext hb9 (Hid.out HB))
          obtain ⟨a9, c9, rfl, -, -⟩ := RowI.slice hv9
          obtain ⟨a8, c8, rfl, -, -⟩ := RowI.slice hu9
          have g0 := cell_of_row w9 _ 0 _ _ _ hR9; have g1 := cell_of_row w9 _ 1 _ _ _ hR9
          have z0 := frozen_of_row w9 _ 0 _ _ hR9; have z1 := frozen_of_row w9 _ 1 _ _ hR9
          clear hv9 hu9 hap9 hb9 hR9
          go_wp2_with fail
          exact fin_arr rfl rfl rfl HR9.out HV9.out HU9.out HAP9.out HB9.out (by omega)
        done
end Go.Proofs.Ytmjkncmpanhgjaa

namespace Go.Proofs.Ytmjkncmpanhgjaa
set_option maxRecDepth 100000
open Go.RowKit
set_option linter.unusedVariables false
set_option linter.unusedSimpArgs false

/-! prim.cat. -/
/-- a box's sides, made one where there were none -/
def SideV (w wr : World) (v V : Value) (s : List Int) : Prop := (V = v ∧ s.length ≠ 0) ∨ (s.length = 0 ∧ RowI w.heap.size wr V [1])
theorem In64.one : In64 1 := by unfold In64; omega
theorem SideV.sl {w wr : World} {v V : Value} {s : List Int} (h : SideV w wr v V s) (hs : SlA w v s) (hb : Below w.heap.size w wr) : SlA wr V (sided s) := by
  unfold sided
  rcases h with ⟨rfl, h⟩ | ⟨h, hr⟩
  · rw [if_neg h]; exact hs.below hb
  · rw [if_pos h]; exact hr.sl (fun x hx => by rw [List.mem_singleton.1 hx]; exact In64.one)
theorem SideV.keep {w wr wr' : World} {v V : Value} {s : List Int} (h : SideV w wr v V s) (hk : KeepTy 2 wr wr') : SideV w wr' v V s := by
  rcases h with h | ⟨h, hr⟩
  · exact .inl h
  · exact .inr ⟨h, own_keep hr hk⟩
theorem Duo.put0 {w W : World} {v u v2 u2 : Value} (h : Duo w W v u v2 u2) (z : Value) : Duo w (W.setCell ⟨w.heap.size, 0, none⟩ z) z u v2 u2 :=
  ⟨heap_setCell_same W _ 0 _ _ _ h.x, block_other h.y (by show w.heap.size ≠ w.heap.size + 1; omega) _, block_other h.r (by show w.heap.size ≠ w.heap.size + 2; omega) _, h.b.setCell (p := ⟨w.heap.size, 0, none⟩) (Nat.le_refl _) _⟩
theorem Duo.put2 {w W : World} {v u v2 u2 : Value} (h : Duo w W v u v2 u2) (z : Value) : Duo w (W.setCell ⟨w.heap.size + 1, 0, none⟩ z) v u z u2 :=
  ⟨block_other h.x (by show w.heap.size + 1 ≠ w.heap.size; omega) _, heap_setCell_same W _ 0 _ _ _ h.y, block_other h.r (by show w.heap.size + 1 ≠ w.heap.size + 2; omega) _, h.b.setCell (p := ⟨w.heap.size + 1, 0, none⟩) (by show _ ≤ w.heap.size + 1; omega) _⟩
def PtrRow (w wr : World) (L : Nat) : Prop := wr.heap[L]? = some (.cells #[.pointer (some ⟨w.heap.size, 0, none⟩), .pointer (some ⟨w.heap.size + 1, 0, none⟩)] 82 (0, 0))
theorem row_one (W : World) (B : Nat) (h : B ≤ W.heap.size) (y : Int) : RowI B (W.alloc (.cells #[.int .i64 y] 2)) (.slice (some ⟨W.heap.size, 0, none⟩) 1 1) [y] := World.ownsRow_lit W #[.int .i64 y] 1 h (by unfold maxLen; omega) rfl
theorem sided_bd {s d : List Int} (h : right s d = true) : 0 ≤ (sided s).headD 0 ∧ (sided s).headD 0 ≤ 65536 := by
  have g := (right_good h).2
  unfold sided
  split
  · exact ⟨by decide, by decide⟩
  · cases s with
    | nil => simp at *
    | cons x s => exact g.side x (by simp)
theorem rows_two {W : World} {g : Nat} {a b : Option Addr} {c1 c2 : Nat} {d e : List Int} (hg : W.heap[g]? = some (.cells #[.slice a d.length c1, .slice b e.length c2] 22 (0, 0)))
    (h1 : Src W (.slice a d.length c1) d.length (d.map (Value.int .i64))) (h2 : Src W (.slice b e.length c2) e.length (e.map (Value.int .i64))) : RowsAt W (some ⟨g, 0, none⟩) [d, e] := fun i hi => by
  match i, hi with
  | 0, _ => exact ⟨g, 0, _, rfl, cell_of_row W g 0 _ _ _ hg, ⟨_, _, rfl⟩, h1⟩
  | 1, _ => exact ⟨g, 0, _, rfl, cell_of_row W g 1 _ _ _ hg, ⟨_, _, rfl⟩, h2⟩
  | i + 2, h => simp at h; omega
set_option maxHeartbeats 8000000 in
theorem cat_any (w : World) (v u v2 u2 : Value) (s d t e : List Int) (hs : SlA w v s) (hd : SlA w u d) (ht : SlA w v2 t) (he : SlA w u2 e) (hr1 : right s d = true) (hr2 : right t e = true) :
    Calls Try.prog 50 #[.agg #[v, u], .agg #[v2, u2]] w fun e' w' => RetArr w.heap.size (catA s d t e) e' w' ∧ Below w.heap.size w w' := by
  have hs4 := (right_good hr1).2.len
  have hd6 := (right_good hr1).2.le
  have ht4 := (right_good hr2).2.len
  have he6 := (right_good hr2).2.le
  have HSL := Lib.hid hs; have HTL := Lib.hid ht
  have HSB := Lib.hid (sided_bd hr1); have HTB := Lib.hid (sided_bd hr2)
  clear hr1 hr2
  have HS0 := Lib.hid hs.src; have HS1 := Lib.hid hd.src; have HS2 := Lib.hid ht.src; have HS3 := Lib.hid he.src
  obtain ⟨a0, c0, rfl, h01, h02, -, h04, -⟩ := hs
  obtain ⟨a1, c1, rfl, h11, h12, -, h14, hin⟩ := hd
  obtain ⟨a2, c2, rfl, h21, h22, -, h24, -⟩ := ht
  obtain ⟨a3, c3, rfl, h31, h32, -, h34, hie⟩ := he
  have h02' : c0 ≤ 9223372036854775807 := h02
  have h12' : c1 ≤ 9223372036854775807 := h12
  have h22' : c2 ≤ 9223372036854775807 := h22
  have h32' : c3 ≤ 9223372036854775807 := h32
  have HM : Hid (s.length ≤ maxLen) := Lib.hid (Nat.le_trans h01 h02)
  have HM2 : Hid (t.length ≤ maxLen) := Lib.hid (Nat.le_trans h21 h22)
  have H0 := Lib.hid h04; have H1 := Lib.hid h14; have HIN := Lib.hid hin
  have H2 := Lib.hid h24; have H3 := Lib.hid h34; have HIE := Lib.hid hie
  have HO := Lib.hid (Duo.mk0 w (.slice a0 s.length c0) (.slice a1 d.length c1) (.slice a2 t.length c2) (.slice a3 e.length c3))
  obtain ⟨r, HRR⟩ : ∃ r, Hid ((catA s d t e) = r) := ⟨_, Lib.hid rfl⟩
  rw [HRR.out]
  clear h04 h14 h24 h34 h02 h12 h22 h32 hin hie
  go_enter Try.func50, Try.ntmps50
  go_upto_region 1 with fail
  refine gen_worldA (fun W => Duo w W (.slice a0 s.length c0) (.slice a1 d.length c1) (.slice a2 t.length c2) (.slice a3 e.length c3)) HO.out ?_
  rintro W1 hO
  have HO2 := Lib.hid hO
  have x0 := hO.c0; have x1 := hO.c1; have x2 := hO.c2; have x3 := hO.c3
  clear HO hO
  clear x0 x1 x2 x3
  obtain ⟨L, hL⟩ : ∃ L, W1.heap.size = L := ⟨_, rfl⟩
  have HP := Lib.hid (show PtrRow w (W1.alloc (.cells #[.pointer (some ⟨w.heap.size, 0, none⟩), .pointer (some ⟨w.heap.size + 1, 0, none⟩)] 82)) L from hL ▸ World.alloc_heap_new _ _)
  have HO3 := Lib.hid (HO2.out.next ((Below.refl W1.heap.size W1).alloc (Nat.le_refl _) (.cells #[.pointer (some ⟨w.heap.size, 0, none⟩), .pointer (some ⟨w.heap.size + 1, 0, none⟩)] 82)))
  have hlt : w.heap.size + 2 < L := hL ▸ HO2.out.lt
  clear HO2
  go_upto_block 0 with fail
  go_cut [13] (fun s13 wx => ∃ V1 V2, Duo w wx V1 (.slice a1 d.length c1) V2 (.slice a3 e.length c3) ∧ SideV w wx (.slice a0 s.length c0) V1 s ∧ SideV w wx (.slice a2 t.length c2) V2 t)
  case first =>
    go_wp2_with fail
    go_loopw [13] (fun i wr => ∃ V1 V2, Duo w wr V1 (.slice a1 d.length c1) V2 (.slice a3 e.length c3) ∧ PtrRow w wr L ∧
      ((i = .int .i64 0 ∧ V1 = .slice a0 s.length c0 ∧ V2 = .slice a2 t.length c2) ∨ (i = .int .i64 1 ∧ SideV w wr (.slice a0 s.length c0) V1 s ∧ V2 = .slice a2 t.length c2) ∨ (i = .int .i64 2 ∧ SideV w wr (.slice a0 s.length c0) V1 s ∧ SideV w wr (.slice a2 t.length c2) V2 t))) (fun i _ => 2 - (intOf i).toNat)
    case atStart => exact ⟨_, _, HO3.out, HP.out, .inl ⟨rfl, rfl, rfl⟩⟩
    case round =>
      obtain ⟨V1, V2, hO, hp, ⟨rfl, rfl, rfl⟩ | ⟨rfl, hv1, rfl⟩ | ⟨rfl, hv1, hv2⟩⟩ := hrel
      · clear HP HO3
        have p0 := cell_of_row wr L 0 _ _ _ hp
        have x0 := hO.c0
        have y0 := frozen_of_row wr w.heap.size 0 _ _ hO.x
        by_cases hz : s.length = 0
        · have hO2 := (hO.put0 (.slice (some ⟨wr.heap.size, 0, none⟩) 1 1)).next ((Below.refl _ _).alloc (Nat.le_refl _) (.cells #[.int .i64 1] 2))
          have hp2 : PtrRow w ((wr.setCell ⟨w.heap.size, 0, none⟩ (.slice (some ⟨wr.heap.size, 0, none⟩) 1 1)).alloc (.cells #[.int .i64 1] 2)) L := block_alloc (block_other hp (by show w.heap.size ≠ L; omega) _) _
          have hv : SideV w ((wr.setCell ⟨w.heap.size, 0, none⟩ (.slice (some ⟨wr.heap.size, 0, none⟩) 1 1)).alloc (.cells #[.int .i64 1] 2)) (.slice a0 s.length c0) (.slice (some ⟨wr.heap.size, 0, none⟩) 1 1) s :=
            .inr ⟨hz, by have := row_one (wr.setCell ⟨w.heap.size, 0, none⟩ (.slice (some ⟨wr.heap.size, 0, none⟩) 1 1)) w.heap.size (by have := hO.b.size; simpa using this) 1; simpa using this⟩
          have HO4 := Lib.hid hO2; have HP2 := Lib.hid hp2; have HV := Lib.hid hv
          have hzI : ((s.length : Int) == 0) = true := by rw [hz]; rfl
          have hlw0 := hO.lt
          have hlw : w.heap.size < wr.heap.size := by omega
          have hlw1 : w.heap.size + 1 < wr.heap.size := by omega
          clear hO2 hp2 hv hO hp hz
          go_wp2_with fail
          go_roundw
          case rel => exact ⟨_, _, HO4.out, HP2.out, .inr (.inl ⟨by go_num, HV.out, rfl⟩)⟩
          case measure => simp [intOf]
        · have hzI : ((s.length : Int) == 0) = false := by rw [beq_eq_false_iff_ne]; omega
          have HO4 := Lib.hid hO; have HP2 := Lib.hid hp; have HZ := Lib.hid hz
          clear hO hp hz
          go_wp2_with fail
          go_roundw
          case rel => exact ⟨_, _, HO4.out, HP2.out, .inr (.inl ⟨by go_num, .inl ⟨rfl, HZ.out⟩, rfl⟩)⟩
          case measure => simp [intOf]
      · clear HP HO3
        have p0 := cell_of_row wr L 1 _ _ _ hp
        have x2 := hO.c2
        have y0 := frozen_of_row wr (w.heap.size + 1) 0 _ _ hO.y
        by_cases hz : t.length = 0
        · have hO2 := (hO.put2 (.slice (some ⟨wr.heap.size, 0, none⟩) 1 1)).next ((Below.refl _ _).alloc (Nat.le_refl _) (.cells #[.int .i64 1] 2))
          have hp2 : PtrRow w ((wr.setCell ⟨w.heap.size + 1, 0, none⟩ (.slice (some ⟨wr.heap.size, 0, none⟩) 1 1)).alloc (.cells #[.int .i64 1] 2)) L := block_alloc (block_other hp (by show w.heap.size + 1 ≠ L; omega) _) _
          have hkt : KeepTy 2 wr ((wr.setCell ⟨w.heap.size + 1, 0, none⟩ (.slice (some ⟨wr.heap.size, 0, none⟩) 1 1)).alloc (.cells #[.int .i64 1] 2)) :=
            (KeepTy.setCell (p := ⟨w.heap.size + 1, 0, none⟩) (NotTy.of hO.y (by decide)) _).trans (KeepTy.below ((Below.refl _ _).alloc (Nat.le_refl _) _))
          have hv : SideV w ((wr.setCell ⟨w.heap.size + 1, 0, none⟩ (.slice (some ⟨wr.heap.size, 0, none⟩) 1 1)).alloc (.cells #[.int .i64 1] 2)) (.slice a2 t.length c2) (.slice (some ⟨wr.heap.size, 0, none⟩) 1 1) t :=
            .inr ⟨hz, by have := row_one (wr.setCell ⟨w.heap.size + 1, 0, none⟩ (.slice (some ⟨wr.heap.size, 0, none⟩) 1 1)) w.heap.size (by have := hO.b.size; simpa using this) 1; simpa using this⟩
          have HO4 := Lib.hid hO2; have HP2 := Lib.hid hp2; have HV := Lib.hid hv; have HV1 := Lib.hid (hv1.keep hkt)
          have hzI : ((t.length : Int) == 0) = true := by rw [hz]; rfl
          have hlw0 := hO.lt
          have hlw : w.heap.size < wr.heap.size := by omega
          have hlw1 : w.heap.size + 1 < wr.heap.size := by omega
          clear hO2 hp2 hv hO hp hz hv1 hkt
          go_wp2_with fail
          go_roundw
          case rel => exact ⟨_, _, HO4.out, HP2.out, .inr (.inr ⟨by go_num, HV1.out, HV.out⟩)⟩
          case measure => simp [intOf]
        · have hzI : ((t.length : Int) == 0) = false := by rw [beq_eq_false_iff_ne]; omega
          have HO4 := Lib.hid hO; have HP2 := Lib.hid hp; have HZ := Lib.hid hz; have HV1 := Lib.hid hv1
          clear hO hp hz hv1
          go_wp2_with fail
          go_roundw
          case rel => exact ⟨_, _, HO4.out, HP2.out, .inr (.inr ⟨by go_num, HV1.out, .inl ⟨rfl, HZ.out⟩⟩)⟩
          case measure => simp [intOf]
      · have HO4 := Lib.hid hO; have HV1 := Lib.hid hv1; have HV2 := Lib.hid hv2
        clear hO hv1 hv2 hp HP HO3
        go_wp2_with fail
        go_meet
        exact ⟨V1, V2, HO4.out, HV1.out, HV2.out⟩
  case rest =>
    obtain ⟨V1, V2, hO, hv1, hv2⟩ := hcut
    have hS := hv1.sl HSL.out hO.b
    have hT := hv2.sl HTL.out hO.b
    have hSl : (sided s).length ≤ 4 := by unfold sided; split; (· simp); (· omega)
    have hTl : (sided t).length ≤ 4 := by unfold sided; split; (· simp); (· omega)
    have hS0 : 0 < (sided s).length := by unfold sided; split; (· simp); (· omega)
    have hT0 : 0 < (sided t).length := by unfold sided; split; (· simp); (· omega)
    have hcat : catA s d t e = if (sided s).length ≠ (sided t).length ∨ (sided s).tail ≠ (sided t).tail then noA 72 else
      (if (size (((sided s).headD 0 + (sided t).headD 0) :: (sided s).tail)).2 ≠ 0 then noA 74 else okA (((sided s).headD 0 + (sided t).headD 0) :: (sided s).tail) (d ++ e)) := rfl
    rw [hcat] at HRR
    have hSb : 0 ≤ (sided s).headD 0 ∧ (sided s).headD 0 ≤ 65536 := HSB.out
    have hTb : 0 ≤ (sided t).headD 0 ∧ (sided t).headD 0 ≤ 65536 := HTB.out
    generalize sided s = S at hS hSl hS0 HRR hSb
    generalize sided t = T at hT hTl hT0 HRR hTb
    obtain ⟨A0, C0, rfl, hA1, hA2, -, hA4, -⟩ := hS
    obtain ⟨A2, C2, rfl, hB1, hB2, -, hB4, -⟩ := hT
    have hA2' : C0 ≤ 9223372036854775807 := hA2
    have hB2' : C2 ≤ 9223372036854775807 := hB2
    have hsd : S.getD 0 0 = S.headD 0 := by cases S <;> rfl
    have htd : T.getD 0 0 = T.headD 0 := by cases T <;> rfl
    have HA := Lib.hid hA4; have HA2 := Lib.hid hB4; have HSD := Lib.hid hsd; have HTD := Lib.hid htd
    have x0 := hO.c0; have x2 := hO.c2
    have f0 := cellBW x0; have f2 := cellBW x2
    have HO5 := Lib.hid hO
    clear hv1 hv2 hcat HSL HTL HP HO3 hL hlt hA4 hB4 hsd htd hA2 hB2 hO HSB HTB x0 x2
    by_cases hl : S.length = T.length
    case neg =>
      rw [if_pos (.inl hl)] at HRR
      have hlI : ((S.length : Int) != (T.length : Int)) = true := by rw [bne_iff_ne]; omega
      clear hl
      go_upto_region 7 with fail
      refine wp_region_below (by kernel_rfl) (by kernel_rfl) ?_
      repeat (go_big_quiet_step (fail))
      refine wpQuiet_nil ?_
      rintro wq ⟨⟨_, hwq⟩, rfl⟩
      have HO6 := Lib.hid (HO5.out.next hwq)
      have hq := fault_at wq w.heap.size HO6.out.b.size 72 r HRR.out
      have HQ := Lib.hid hq; have HR := Lib.hid HO6.out.r; have HB := Lib.hid HO6.out.b
      clear hq hwq HO5 f0 f2
      go_wp2_with fail
      refine (Hid.out HQ).mono ?_
      rintro e w9 ⟨⟨v9, u9, rfl, hv9, hu9, hap9⟩, hb9⟩
      have hR9 := block_below (Hid.out HR) hb9
      have HV9 := Lib.hid hv9; have HU9 := Lib.hid hu9; have HAP9 := Lib.hid hap9; have HR9 := Lib.hid hR9
      have HB9 := Lib.hid (bNext hb9 (Hid.out HB))
      obtain ⟨a9, c9, rfl, -, -⟩ := RowI.slice hv9
      obtain ⟨a8, c8, rfl, -, -⟩ := RowI.slice hu9
      have g0 := cell_of_row w9 _ 0 _ _ _ hR9; have g1 := cell_of_row w9 _ 1 _ _ _ hR9
      have z0 := frozen_of_row w9 _ 0 _ _ hR9; have z1 := frozen_of_row w9 _ 1 _ _ hR9
      clear hv9 hu9 hap9 hb9 hR9
      go_wp2_with fail
      exact fin_arr rfl rfl rfl HR9.out HV9.out HU9.out HAP9.out HB9.out (by omega)
    obtain ⟨n, hn⟩ : ∃ n, S.length = n := ⟨_, rfl⟩
    have hn2 : T.length = n := by rw [← hl, hn]
    have HN := Lib.hid hn; have HN2 := Lib.hid hn2; have HL := Lib.hid hl
    rw [hn] at hA1 hSl hS0 f0
    rw [hn2] at hB1 hTl hT0 f2
    have HO6 := Lib.hid (show Duo w wc (.slice A0 n C0) (.slice a1 d.length c1) (.slice A2 n C2) (.slice a3 e.length c3) by have := HO5.out; rwa [hn, hn2] at this)
    have sl1 : ∀ W, (Instr.sliceAt 22 (.slice A0 n C0) (some (.int .i64 1)) none none).run Try.prog W = .ok (.slice (subA A0 C0 1) (n - 1) (C0 - 1)) W := fun W => slice_lo W A0 n C0 .i64 1 (by omega) (by omega)
    have sl2 : ∀ W, (Instr.sliceAt 22 (.slice A2 n C2) (some (.int .i64 1)) none none).run Try.prog W = .ok (.slice (subA A2 C2 1) (n - 1) (C2 - 1)) W := fun W => slice_lo W A2 n C2 .i64 1 (by omega) (by omega)
    have hcut1 : IntsAt .i64 wc (subA A0 C0 1) S.tail := by
      have := HA.out.cut (l := 1) (n := S.length) (m := C0) (by omega)
      rwa [List.take_of_length_le (by simp), List.drop_one] at this
    have hcut2 : IntsAt .i64 wc (subA A2 C2 1) T.tail := by
      have := HA2.out.cut (l := 1) (n := T.length) (m := C2) (by omega)
      rwa [List.take_of_length_le (by simp), List.drop_one] at this
    have hl1 : S.tail.length = n - 1 := by simp [hn]
    have hl2 : T.tail.length = n - 1 := by simp [hn2]
    have heq : ∀ p : BelowW wc, Calls Try.prog 52 #[.slice (subA A0 C0 1) (n - 1) (C0 - 1), .slice (subA A2 C2 1) (n - 1) (C2 - 1)] p.world fun e w' => e = .returned (.bool (ints S.tail T.tail)) ∧ Below p.world.heap.size p.world w' := fun p => by
      have := equal_any p.world (subA A0 C0 1) (subA A2 C2 1) (C0 - 1) (C2 - 1) S.tail T.tail (by rw [hl1]; unfold maxLen; omega) (by rw [hl2]; unfold maxLen; omega) (hcut1.below p.below (Nat.le_refl _)) (hcut2.below p.below (Nat.le_refl _))
      rw [hl1, hl2] at this
      exact this.mono fun e w' ⟨h1, n, h2⟩ => ⟨h1, h2 ▸ Below.drewN _ _⟩
    clear hl hn hn2 hcut1 hcut2 hl1 hl2 HO5
    generalize subA A0 C0 1 = B0 at sl1 heq
    generalize subA A2 C2 1 = B2 at sl2 heq
    have hint : ints S.tail T.tail = decide (S.tail = T.tail) := rfl
    rw [hint] at heq
    by_cases htl : S.tail = T.tail
    case neg =>
      rw [if_pos (.inr htl)] at HRR
      rw [decide_eq_false htl] at heq
      have HEQ := Lib.hid heq
      clear htl hint heq
      go_upto_region 7 with fail
      refine wp_region_below (by kernel_rfl) (by kernel_rfl) ?_
      repeat (go_big_quiet_step ((go_at_call 52; refine callsBW (HEQ.out _))))
      refine wpQuiet_nil ?_
      rintro wq ⟨⟨_, hwq⟩, rfl⟩
      have HO7 := Lib.hid (HO6.out.next hwq)
      have hq := fault_at wq w.heap.size HO7.out.b.size 72 r HRR.out
      have HQ := Lib.hid hq; have HR := Lib.hid HO7.out.r; have HB := Lib.hid HO7.out.b
      clear hq hwq HO6 f0 f2 sl1 sl2 HEQ
      go_wp2_with fail
      refine (Hid.out HQ).mono ?_
      rintro e w9 ⟨⟨v9, u9, rfl, hv9, hu9, hap9⟩, hb9⟩
      have hR9 := block_below (Hid.out HR) hb9
      have HV9 := Lib.hid hv9; have HU9 := Lib.hid hu9; have HAP9 := Lib.hid hap9; have HR9 := Lib.hid hR9
      have HB9 := Lib.hid (bNext hb9 (Hid.out HB))
      obtain ⟨a9, c9, rfl, -, -⟩ := RowI.slice hv9
      obtain ⟨a8, c8, rfl, -, -⟩ := RowI.slice hu9
      have g0 := cell_of_row w9 _ 0 _ _ _ hR9; have g1 := cell_of_row w9 _ 1 _ _ _ hR9
      have z0 := frozen_of_row w9 _ 0 _ _ hR9; have z1 := frozen_of_row w9 _ 1 _ _ hR9
      clear hv9 hu9 hap9 hb9 hR9
      go_wp2_with fail
      exact fin_arr rfl rfl rfl HR9.out HV9.out HU9.out HAP9.out HB9.out (by omega)
    rw [if_neg (fun h => h.elim (fun h => h HL.out) (fun h => h htl))] at HRR
    rw [decide_eq_true htl] at heq
    have HEQ := Lib.hid heq
    clear htl hint heq
    go_upto_region 7 with fail
    refine wp_region_below (by kernel_rfl) (by kernel_rfl) ?_
    repeat (go_big_quiet_step ((go_at_call 52; refine callsBW (HEQ.out _))))
    refine wpQuiet_nil ?_
    rintro wq ⟨⟨_, hwq⟩, rfl⟩
    have HO7 := Lib.hid (HO6.out.next hwq)
    have HWQ := Lib.hid hwq
    have hq := clone_n wq A0 n C0 S HN.out.symm (by rw [HN.out]; omega) (HA.out.below hwq (Nat.le_refl _))
    have HQ := Lib.hid hq
    have x0 := HO7.out.c0
    clear hq hwq HO6 f0 f2 sl1 sl2 HEQ
    go_wp2_with fail
    refine HQ.out.mono ?_
    rintro e' W5 ⟨⟨v5, rfl, hv5⟩, hb5⟩
    have HO8 := Lib.hid (HO7.out.next hb5)
    have hv5 := hv5.mono HO7.out.b.size
    obtain ⟨G, c5, e5, -, hG⟩ := hv5.form (by rw [HN.out]; omega)
    rw [HN.out] at e5
    subst e5
    have hc5 := hv5.at (k := 0) (by rw [HN.out]; omega)
    have hf5 := hv5.fr 0
    obtain ⟨b2, o2, rfl, hc2⟩ := HA2.out.atD (k := 0) (by rw [HN2.out]; omega)
    have hc2 := keepCell (HWQ.out.trans (hb5.mono HWQ.out.size)) hc2
    rw [HTD.out, Nat.add_zero] at hc2
    rw [HSD.out] at hc5
    have hst0 : S.set 0 (S.headD 0 + T.headD 0) = (S.headD 0 + T.headD 0) :: S.tail := set_zero (by rw [HN.out]; omega) _
    have hset := (hv5.drewN 1).set 0 (S.headD 0 + T.headD 0)
    rw [hst0] at hset
    have HO9 := Lib.hid ((HO8.out.next (Below.drewN W5 1)).row2 (k := 0) (x := .int .i64 (S.headD 0 + T.headD 0)) (hv5.drewN 1))
    have hUl : ((S.headD 0 + T.headD 0) :: S.tail).length = n := by have := HN.out; simp; omega
    clear hst0
    generalize S.headD 0 = x at *
    generalize T.headD 0 = y at *
    generalize S.tail = tl at *
    have HSET := Lib.hid hset; have HUL := Lib.hid hUl
    have x2 := HO8.out.c2
    have hx1 := hSb.1; have hx2 := hSb.2; have hy1 := hTb.1; have hy2 := hTb.2
    clear hSb hTb hv5 hb5 hset hUl HQ HO7 HWQ HA HA2 HSD HTD HN HN2 HL x0
    go_wp2_with fail
    go_region
    go_upto_region 11 with fail
    refine gen_worldA (fun W => Duo w W (.slice A0 n C0) (.slice a1 d.length c1) (.slice (some ⟨b2, o2, none⟩) n C2) (.slice a3 e.length c3) ∧ RowI w.heap.size W (.slice (some ⟨G, 0, none⟩) n c5) ((x + y) :: tl)) ⟨HO9.out, HSET.out⟩ ?_
    rintro W6 ⟨hO, hv6⟩
    have hq := size_any W6 (some ⟨G, 0, none⟩) c5 ((x + y) :: tl) (by rw [HUL.out]; unfold maxLen; omega) hv6.ints
    rw [HUL.out] at hq
    obtain ⟨nz, er, hsz⟩ : ∃ nz er, size ((x + y) :: tl) = (nz, er) := ⟨_, _, rfl⟩
    rw [hsz] at hq HRR
    have HQ := Lib.hid hq; have HOA := Lib.hid hO; have HV6 := Lib.hid hv6
    clear hq hO hv6 hsz hc5 hf5 hc2 x2 HO8 HO9 HSET
    go_wp2_with fail
    refine HQ.out.mono ?_
    rintro e' W7 ⟨rfl, hb7⟩
    have HOB := Lib.hid (HOA.out.next hb7); have HV7 := Lib.hid (HV6.out.below hb7)
    unfold two
    have x1 := HOB.out.c1; have x3 := HOB.out.c3
    clear hb7 HQ HOA HV6
    by_cases her : er = 0
    case neg =>
      have her' : (er != 0) = true := by simpa using her
      rw [if_pos her] at HRR
      have hq := fault_at W7 w.heap.size HOB.out.b.size 74 r HRR.out
      have HQ := Lib.hid hq; have HR := Lib.hid HOB.out.r; have HB := Lib.hid HOB.out.b
      clear hq her
      go_wp2_with fail
      refine (Hid.out HQ).mono ?_
      rintro e w9 ⟨⟨v9, u9, rfl, hv9, hu9, hap9⟩, hb9⟩
      have hR9 := block_below (Hid.out HR) hb9
      have HV9 := Lib.hid hv9; have HU9 := Lib.hid hu9; have HAP9 := Lib.hid hap9; have HR9 := Lib.hid hR9
      have HB9 := Lib.hid (bNext hb9 (Hid.out HB))
      obtain ⟨a9, c9, rfl, -, -⟩ := RowI.slice hv9
      obtain ⟨a8, c8, rfl, -, -⟩ := RowI.slice hu9
      have g0 := cell_of_row w9 _ 0 _ _ _ hR9; have g1 := cell_of_row w9 _ 1 _ _ _ hR9
      have z0 := frozen_of_row w9 _ 0 _ _ hR9; have z1 := frozen_of_row w9 _ 1 _ _ hR9
      clear hv9 hu9 hap9 hb9 hR9
      go_wp2_with fail
      exact fin_arr rfl rfl rfl HR9.out HV9.out HU9.out HAP9.out HB9.out (by omega)
    subst her
    rw [if_neg (by decide)] at HRR
    have hba : Below W7.heap.size W7 (W7.alloc (.cells #[.slice a1 d.length c1, .slice a3 e.length c3] 22)) := (Below.refl _ _).alloc (Nat.le_refl _) _
    have hg8 : (W7.alloc (.cells #[.slice a1 d.length c1, .slice a3 e.length c3] 22)).heap[W7.heap.size]? = some (.cells #[.slice a1 d.length c1, .slice a3 e.length c3] 22 (0, 0)) := World.alloc_heap_new _ _
    have hrows : RowsAt (W7.alloc (.cells #[.slice a1 d.length c1, .slice a3 e.length c3] 22)) (some ⟨W7.heap.size, 0, none⟩) [d, e] := rows_two hg8 (HS1.out.below (HOB.out.next hba).b) (HS3.out.below (HOB.out.next hba).b)
    have hq := concat_any _ (some ⟨W7.heap.size, 0, none⟩) 2 2 (d.length + e.length) [d, e] rfl (by omega) (by simp) (by omega) hrows
    have hfl : [d, e].flatten = d ++ e := by simp
    rw [hfl] at hq
    have HQ := Lib.hid hq; have HOC := Lib.hid (HOB.out.next hba); have HV8 := Lib.hid (HV7.out.below hba)
    clear hq hrows hg8 hba hfl HOB HV7
    go_wp2_with fail
    refine HQ.out.mono ?_
    rintro e' W9 ⟨v9, rfl, hv9, hb9⟩
    have HOD := Lib.hid (HOC.out.next hb9)
    have hv9 := hv9.mono HOC.out.b.size
    have hq := good_any W9 w.heap.size HOD.out.b.size (some ⟨G, 0, none⟩) n c5 ((x + y) :: tl) (d ++ e) v9 HUL.out.symm (by rw [HUL.out]; omega) (HV8.out.below hb9).ints hv9
    rw [HRR.out] at hq
    obtain ⟨a9, c9, e9, -, -⟩ := hv9.slice
    rw [List.length_append] at e9
    subst e9
    clear HQ
    have HQ := Lib.hid hq; have HR := Lib.hid HOD.out.r; have HB := Lib.hid HOD.out.b
    clear hq hv9 hb9 HOC HV8 x1 x3
    go_wp2_with fail
    refine (Hid.out HQ).mono ?_
    rintro e w9 ⟨⟨v9, u9, rfl, hv9, hu9, hap9⟩, hb9⟩
    have hR9 := block_below (Hid.out HR) hb9
    have HV9 := Lib.hid hv9; have HU9 := Lib.hid hu9; have HAP9 := Lib.hid hap9; have HR9 := Lib.hid hR9
    have HB9 := Lib.hid (bNext hb9 (Hid.out HB))
    obtain ⟨a9, c9, rfl, -, -⟩ := RowI.slice hv9
    obtain ⟨a8, c8, rfl, -, -⟩ := RowI.slice hu9
    have g0 := cell_of_row w9 _ 0 _ _ _ hR9; have g1 := cell_of_row w9 _ 1 _ _ _ hR9
    have z0 := frozen_of_row w9 _ 0 _ _ hR9; have z1 := frozen_of_row w9 _ 1 _ _ hR9
    clear hv9 hu9 hap9 hb9 hR9
    go_wp2_with fail
    exact fin_arr rfl rfl rfl HR9.out HV9.out HU9.out HAP9.out HB9.out (by omega)
end Go.Proofs.Ytmjkncmpanhgjaa

namespace Go.Proofs.Ytmjkncmpanhgjaa
set_option maxRecDepth 100000
open Go.RowKit
set_option linter.unusedVariables false
set_option linter.unusedSimpArgs false

/-! prim.Dyad: all but functions of two numbers. -/
set_option maxHeartbeats 4000000 in
theorem pd_bad1 (w : World) (f : Int) (v u v2 u2 : Value) (s d t e : List Int) (hs : SlA w v s) (hd : SlA w u d) (ht : SlA w v2 t) (he : SlA w u2 e) (hr1 : right s d = false) :
    Calls Try.prog 17 #[.int .u8 f, .agg #[v, u], .agg #[v2, u2]] w fun e' w' => RetArr w.heap.size (noA 60) e' w' ∧ Below w.heap.size w w' := by
  have HR1 := Lib.hid hr1
  clear hr1
  have HS0 := Lib.hid hs.src; have HS1 := Lib.hid hd.src; have HS2 := Lib.hid ht.src; have HS3 := Lib.hid he.src
  obtain ⟨a0, c0, rfl, h01, h02, -, h04, -⟩ := hs
  obtain ⟨a1, c1, rfl, h11, h12, -, h14, hin⟩ := hd
  obtain ⟨a2, c2, rfl, h21, h22, -, h24, -⟩ := ht
  obtain ⟨a3, c3, rfl, h31, h32, -, h34, hie⟩ := he
  have h02' : c0 ≤ 9223372036854775807 := h02
  have h12' : c1 ≤ 9223372036854775807 := h12
  have h22' : c2 ≤ 9223372036854775807 := h22
  have h32' : c3 ≤ 9223372036854775807 := h32
  have HM : Hid (s.length ≤ maxLen) := Lib.hid (Nat.le_trans h01 h02)
  have HM2 : Hid (t.length ≤ maxLen) := Lib.hid (Nat.le_trans h21 h22)
  have H0 := Lib.hid h04; have H1 := Lib.hid h14; have HIN := Lib.hid hin
  have H2 := Lib.hid h24; have H3 := Lib.hid h34; have HIE := Lib.hid hie
  have HO := Lib.hid (Duo.mk0 w (.slice a0 s.length c0) (.slice a1 d.length c1) (.slice a2 t.length c2) (.slice a3 e.length c3))
  obtain ⟨r, HRR⟩ : ∃ r, Hid ((noA 60) = r) := ⟨_, Lib.hid rfl⟩
  rw [HRR.out]
  clear h04 h14 h24 h34 h02 h12 h22 h32 hin hie
  go_enter Try.func17, Try.ntmps17
  go_upto_region 1 with fail
  refine gen_worldA (fun W => Duo w W (.slice a0 s.length c0) (.slice a1 d.length c1) (.slice a2 t.length c2) (.slice a3 e.length c3)) HO.out ?_
  rintro W1 hO
  have HO2 := Lib.hid hO
  have x0 := hO.c0; have x1 := hO.c1; have x2 := hO.c2; have x3 := hO.c3
  clear HO hO
  have hq := right_any W1 a0 a1 c0 c1 s d HM.out (H0.out.below HO2.out.b (Nat.le_refl _))
  rw [HR1.out] at hq
  have HQ := Lib.hid hq
  clear hq
  go_wp2_with fail
  refine HQ.out.mono ?_
  rintro e' W2 ⟨rfl, hb2⟩
  have HO3 := Lib.hid (HO2.out.next hb2)
  have hq := fault_at W2 w.heap.size HO3.out.b.size 60 r HRR.out
  clear HQ x0 x1 x2 x3
  have HQ := Lib.hid hq; have HR := Lib.hid HO3.out.r; have HB := Lib.hid HO3.out.b
  clear hq hb2 HO2
  go_wp2_with fail
  refine (Hid.out HQ).mono ?_
  rintro e w9 ⟨⟨v9, u9, rfl, hv9, hu9, hap9⟩, hb9⟩
  have hR9 := block_below (Hid.out HR) hb9
  have HV9 := Lib.hid hv9; have HU9 := Lib.hid hu9; have HAP9 := Lib.hid hap9; have HR9 := Lib.hid hR9
  have HB9 := Lib.hid (bNext hb9 (Hid.out HB))
  obtain ⟨a9, c9, rfl, -, -⟩ := RowI.slice hv9
  obtain ⟨a8, c8, rfl, -, -⟩ := RowI.slice hu9
  have g0 := cell_of_row w9 _ 0 _ _ _ hR9; have g1 := cell_of_row w9 _ 1 _ _ _ hR9
  have z0 := frozen_of_row w9 _ 0 _ _ hR9; have z1 := frozen_of_row w9 _ 1 _ _ hR9
  clear hv9 hu9 hap9 hb9 hR9
  go_wp2_with fail
  exact fin_arr rfl rfl rfl HR9.out HV9.out HU9.out HAP9.out HB9.out (by omega)
set_option maxHeartbeats 4000000 in
theorem pd_bad2 (w : World) (f : Int) (v u v2 u2 : Value) (s d t e : List Int) (hs : SlA w v s) (hd : SlA w u d) (ht : SlA w v2 t) (he : SlA w u2 e) (hr1 : right s d = true) (hr2 : right t e = false) :
    Calls Try.prog 17 #[.int .u8 f, .agg #[v, u], .agg #[v2, u2]] w fun e' w' => RetArr w.heap.size (noA 60) e' w' ∧ Below w.heap.size w w' := by
  have HR1 := Lib.hid hr1; have HR2 := Lib.hid hr2
  clear hr1 hr2
  have HS0 := Lib.hid hs.src; have HS1 := Lib.hid hd.src; have HS2 := Lib.hid ht.src; have HS3 := Lib.hid he.src
  obtain ⟨a0, c0, rfl, h01, h02, -, h04, -⟩ := hs
  obtain ⟨a1, c1, rfl, h11, h12, -, h14, hin⟩ := hd
  obtain ⟨a2, c2, rfl, h21, h22, -, h24, -⟩ := ht
  obtain ⟨a3, c3, rfl, h31, h32, -, h34, hie⟩ := he
  have h02' : c0 ≤ 9223372036854775807 := h02
  have h12' : c1 ≤ 9223372036854775807 := h12
  have h22' : c2 ≤ 9223372036854775807 := h22
  have h32' : c3 ≤ 9223372036854775807 := h32
  have HM : Hid (s.length ≤ maxLen) := Lib.hid (Nat.le_trans h01 h02)
  have HM2 : Hid (t.length ≤ maxLen) := Lib.hid (Nat.le_trans h21 h22)
  have H0 := Lib.hid h04; have H1 := Lib.hid h14; have HIN := Lib.hid hin
  have H2 := Lib.hid h24; have H3 := Lib.hid h34; have HIE := Lib.hid hie
  have HO := Lib.hid (Duo.mk0 w (.slice a0 s.length c0) (.slice a1 d.length c1) (.slice a2 t.length c2) (.slice a3 e.length c3))
  obtain ⟨r, HRR⟩ : ∃ r, Hid ((noA 60) = r) := ⟨_, Lib.hid rfl⟩
  rw [HRR.out]
  clear h04 h14 h24 h34 h02 h12 h22 h32 hin hie
  go_enter Try.func17, Try.ntmps17
  go_upto_region 1 with fail
  refine gen_worldA (fun W => Duo w W (.slice a0 s.length c0) (.slice a1 d.length c1) (.slice a2 t.length c2) (.slice a3 e.length c3)) HO.out ?_
  rintro W1 hO
  have HO2 := Lib.hid hO
  have x0 := hO.c0; have x1 := hO.c1; have x2 := hO.c2; have x3 := hO.c3
  clear HO hO
  have hq := right_any W1 a0 a1 c0 c1 s d HM.out (H0.out.below HO2.out.b (Nat.le_refl _))
  rw [HR1.out] at hq
  have HQ := Lib.hid hq
  clear hq
  go_wp2_with fail
  refine HQ.out.mono ?_
  rintro e' W2 ⟨rfl, hb2⟩
  have HO3 := Lib.hid (HO2.out.next hb2)
  have hq := right_any W2 a2 a3 c2 c3 t e HM2.out (H2.out.below HO3.out.b (Nat.le_refl _))
  rw [HR2.out] at hq
  clear HQ x0 x1 x2 x3
  have HQ := Lib.hid hq
  have x2 := HO3.out.c2; have x3 := HO3.out.c3
  clear hq hb2 HO2
  go_wp2_with fail
  refine HQ.out.mono ?_
  rintro e' W3 ⟨rfl, hb3⟩
  have HO4 := Lib.hid (HO3.out.next hb3)
  clear HQ x2 x3 hb3 HO3
  have x0 := HO4.out.c0; have x1 := HO4.out.c1; have x2 := HO4.out.c2; have x3 := HO4.out.c3
  have hq := fault_at W3 w.heap.size HO4.out.b.size 60 r HRR.out
  have HQ := Lib.hid hq; have HR := Lib.hid HO4.out.r; have HB := Lib.hid HO4.out.b
  clear hq x0 x1 x2 x3
  go_wp2_with fail
  refine (Hid.out HQ).mono ?_
  rintro e w9 ⟨⟨v9, u9, rfl, hv9, hu9, hap9⟩, hb9⟩
  have hR9 := block_below (Hid.out HR) hb9
  have HV9 := Lib.hid hv9; have HU9 := Lib.hid hu9; have HAP9 := Lib.hid hap9; have HR9 := Lib.hid hR9
  have HB9 := Lib.hid (bNext hb9 (Hid.out HB))
  obtain ⟨a9, c9, rfl, -, -⟩ := RowI.slice hv9
  obtain ⟨a8, c8, rfl, -, -⟩ := RowI.slice hu9
  have g0 := cell_of_row w9 _ 0 _ _ _ hR9; have g1 := cell_of_row w9 _ 1 _ _ _ hR9
  have z0 := frozen_of_row w9 _ 0 _ _ hR9; have z1 := frozen_of_row w9 _ 1 _ _ hR9
  clear hv9 hu9 hap9 hb9 hR9
  go_wp2_with fail
  exact fin_arr rfl rfl rfl HR9.out HV9.out HU9.out HAP9.out HB9.out (by omega)
set_option maxHeartbeats 4000000 in
theorem pd_rho (w : World) (v u v2 u2 : Value) (s d t e : List Int) (hs : SlA w v s) (hd : SlA w u d) (ht : SlA w v2 t) (he : SlA w u2 e) (hr1 : right s d = true) (hr2 : right t e = true) :
    Calls Try.prog 17 #[.int .u8 37, .agg #[v, u], .agg #[v2, u2]] w fun e' w' => RetArr w.heap.size (rhoA s d t e) e' w' ∧ Below w.heap.size w w' := by
  have HR1 := Lib.hid hr1; have HR2 := Lib.hid hr2
  have hs' := hs; have hd' := hd; have ht' := ht; have he' := he
  have HI := Lib.hid (fun W (hb : Below w.heap.size w W) => rho_any W v u v2 u2 s d t e (hs'.below hb) (hd'.below hb) (ht'.below hb) (he'.below hb))
  clear hr1 hr2 hs' hd' ht' he'
  have HS0 := Lib.hid hs.src; have HS1 := Lib.hid hd.src; have HS2 := Lib.hid ht.src; have HS3 := Lib.hid he.src
  obtain ⟨a0, c0, rfl, h01, h02, -, h04, -⟩ := hs
  obtain ⟨a1, c1, rfl, h11, h12, -, h14, hin⟩ := hd
  obtain ⟨a2, c2, rfl, h21, h22, -, h24, -⟩ := ht
  obtain ⟨a3, c3, rfl, h31, h32, -, h34, hie⟩ := he
  have h02' : c0 ≤ 9223372036854775807 := h02
  have h12' : c1 ≤ 9223372036854775807 := h12
  have h22' : c2 ≤ 9223372036854775807 := h22
  have h32' : c3 ≤ 9223372036854775807 := h32
  have HM : Hid (s.length ≤ maxLen) := Lib.hid (Nat.le_trans h01 h02)
  have HM2 : Hid (t.length ≤ maxLen) := Lib.hid (Nat.le_trans h21 h22)
  have H0 := Lib.hid h04; have H1 := Lib.hid h14; have HIN := Lib.hid hin
  have H2 := Lib.hid h24; have H3 := Lib.hid h34; have HIE := Lib.hid hie
  have HO := Lib.hid (Duo.mk0 w (.slice a0 s.length c0) (.slice a1 d.length c1) (.slice a2 t.length c2) (.slice a3 e.length c3))
  obtain ⟨r, HRR⟩ : ∃ r, Hid ((rhoA s d t e) = r) := ⟨_, Lib.hid rfl⟩
  rw [HRR.out]
  clear h04 h14 h24 h34 h02 h12 h22 h32 hin hie
  rw [HRR.out] at HI
  go_enter Try.func17, Try.ntmps17
  go_upto_region 1 with fail
  refine gen_worldA (fun W => Duo w W (.slice a0 s.length c0) (.slice a1 d.length c1) (.slice a2 t.length c2) (.slice a3 e.length c3)) HO.out ?_
  rintro W1 hO
  have HO2 := Lib.hid hO
  have x0 := hO.c0; have x1 := hO.c1; have x2 := hO.c2; have x3 := hO.c3
  clear HO hO
  have hq := right_any W1 a0 a1 c0 c1 s d HM.out (H0.out.below HO2.out.b (Nat.le_refl _))
  rw [HR1.out] at hq
  have HQ := Lib.hid hq
  clear hq
  go_wp2_with fail
  refine HQ.out.mono ?_
  rintro e' W2 ⟨rfl, hb2⟩
  have HO3 := Lib.hid (HO2.out.next hb2)
  have hq := right_any W2 a2 a3 c2 c3 t e HM2.out (H2.out.below HO3.out.b (Nat.le_refl _))
  rw [HR2.out] at hq
  clear HQ x0 x1 x2 x3
  have HQ := Lib.hid hq
  have x2 := HO3.out.c2; have x3 := HO3.out.c3
  clear hq hb2 HO2
  go_wp2_with fail
  refine HQ.out.mono ?_
  rintro e' W3 ⟨rfl, hb3⟩
  have HO4 := Lib.hid (HO3.out.next hb3)
  clear HQ x2 x3 hb3 HO3
  have x0 := HO4.out.c0; have x1 := HO4.out.c1; have x2 := HO4.out.c2; have x3 := HO4.out.c3
  have hq := retB HO4.out.b.size (Hid.out HI W3 HO4.out.b)
  have HQ := Lib.hid hq; have HR := Lib.hid HO4.out.r; have HB := Lib.hid HO4.out.b
  clear hq
  go_wp2_with fail
  refine (Hid.out HQ).mono ?_
  rintro e w9 ⟨⟨v9, u9, rfl, hv9, hu9, hap9⟩, hb9⟩
  have hR9 := block_below (Hid.out HR) hb9
  have HV9 := Lib.hid hv9; have HU9 := Lib.hid hu9; have HAP9 := Lib.hid hap9; have HR9 := Lib.hid hR9
  have HB9 := Lib.hid (bNext hb9 (Hid.out HB))
  obtain ⟨a9, c9, rfl, -, -⟩ := RowI.slice hv9
  obtain ⟨a8, c8, rfl, -, -⟩ := RowI.slice hu9
  have g0 := cell_of_row w9 _ 0 _ _ _ hR9; have g1 := cell_of_row w9 _ 1 _ _ _ hR9
  have z0 := frozen_of_row w9 _ 0 _ _ hR9; have z1 := frozen_of_row w9 _ 1 _ _ hR9
  clear hv9 hu9 hap9 hb9 hR9
  go_wp2_with fail
  exact fin_arr rfl rfl rfl HR9.out HV9.out HU9.out HAP9.out HB9.out (by omega)
  done
set_option maxHeartbeats 4000000 in
theorem pd_take (w : World) (v u v2 u2 : Value) (s d t e : List Int) (hs : SlA w v s) (hd : SlA w u d) (ht : SlA w v2 t) (he : SlA w u2 e) (hr1 : right s d = true) (hr2 : right t e = true) :
    Calls Try.prog 17 #[.int .u8 38, .agg #[v, u], .agg #[v2, u2]] w fun e' w' => RetArr w.heap.size (takeA s d t e false) e' w' ∧ Below w.heap.size w w' := by
  have HR1 := Lib.hid hr1; have HR2 := Lib.hid hr2
  have hs' := hs; have hd' := hd; have ht' := ht; have he' := he
  have HI := Lib.hid (fun W (hb : Below w.heap.size w W) => part_any W true v u v2 u2 s d t e (hs'.below hb) (hd'.below hb) (ht'.below hb) (he'.below hb) hr1 hr2)
  clear hr1 hr2 hs' hd' ht' he'
  have HS0 := Lib.hid hs.src; have HS1 := Lib.hid hd.src; have HS2 := Lib.hid ht.src; have HS3 := Lib.hid he.src
  obtain ⟨a0, c0, rfl, h01, h02, -, h04, -⟩ := hs
  obtain ⟨a1, c1, rfl, h11, h12, -, h14, hin⟩ := hd
  obtain ⟨a2, c2, rfl, h21, h22, -, h24, -⟩ := ht
  obtain ⟨a3, c3, rfl, h31, h32, -, h34, hie⟩ := he
  have h02' : c0 ≤ 9223372036854775807 := h02
  have h12' : c1 ≤ 9223372036854775807 := h12
  have h22' : c2 ≤ 9223372036854775807 := h22
  have h32' : c3 ≤ 9223372036854775807 := h32
  have HM : Hid (s.length ≤ maxLen) := Lib.hid (Nat.le_trans h01 h02)
  have HM2 : Hid (t.length ≤ maxLen) := Lib.hid (Nat.le_trans h21 h22)
  have H0 := Lib.hid h04; have H1 := Lib.hid h14; have HIN := Lib.hid hin
  have H2 := Lib.hid h24; have H3 := Lib.hid h34; have HIE := Lib.hid hie
  have HO := Lib.hid (Duo.mk0 w (.slice a0 s.length c0) (.slice a1 d.length c1) (.slice a2 t.length c2) (.slice a3 e.length c3))
  obtain ⟨r, HRR⟩ : ∃ r, Hid ((takeA s d t e false) = r) := ⟨_, Lib.hid rfl⟩
  rw [HRR.out]
  clear h04 h14 h24 h34 h02 h12 h22 h32 hin hie
  rw [show takeA s d t e (!true) = r from HRR.out] at HI
  go_enter Try.func17, Try.ntmps17
  go_upto_region 1 with fail
  refine gen_worldA (fun W => Duo w W (.slice a0 s.length c0) (.slice a1 d.length c1) (.slice a2 t.length c2) (.slice a3 e.length c3)) HO.out ?_
  rintro W1 hO
  have HO2 := Lib.hid hO
  have x0 := hO.c0; have x1 := hO.c1; have x2 := hO.c2; have x3 := hO.c3
  clear HO hO
  have hq := right_any W1 a0 a1 c0 c1 s d HM.out (H0.out.below HO2.out.b (Nat.le_refl _))
  rw [HR1.out] at hq
  have HQ := Lib.hid hq
  clear hq
  go_wp2_with fail
  refine HQ.out.mono ?_
  rintro e' W2 ⟨rfl, hb2⟩
  have HO3 := Lib.hid (HO2.out.next hb2)
  have hq := right_any W2 a2 a3 c2 c3 t e HM2.out (H2.out.below HO3.out.b (Nat.le_refl _))
  rw [HR2.out] at hq
  clear HQ x0 x1 x2 x3
  have HQ := Lib.hid hq
  have x2 := HO3.out.c2; have x3 := HO3.out.c3
  clear hq hb2 HO2
  go_wp2_with fail
  refine HQ.out.mono ?_
  rintro e' W3 ⟨rfl, hb3⟩
  have HO4 := Lib.hid (HO3.out.next hb3)
  clear HQ x2 x3 hb3 HO3
  have x0 := HO4.out.c0; have x1 := HO4.out.c1; have x2 := HO4.out.c2; have x3 := HO4.out.c3
  have hq := retB HO4.out.b.size (Hid.out HI W3 HO4.out.b)
  have HQ := Lib.hid hq; have HR := Lib.hid HO4.out.r; have HB := Lib.hid HO4.out.b
  clear hq
  go_wp2_with fail
  refine (Hid.out HQ).mono ?_
  rintro e w9 ⟨⟨v9, u9, rfl, hv9, hu9, hap9⟩, hb9⟩
  have hR9 := block_below (Hid.out HR) hb9
  have HV9 := Lib.hid hv9; have HU9 := Lib.hid hu9; have HAP9 := Lib.hid hap9; have HR9 := Lib.hid hR9
  have HB9 := Lib.hid (bNext hb9 (Hid.out HB))
  obtain ⟨a9, c9, rfl, -, -⟩ := RowI.slice hv9
  obtain ⟨a8, c8, rfl, -, -⟩ := RowI.slice hu9
  have g0 := cell_of_row w9 _ 0 _ _ _ hR9; have g1 := cell_of_row w9 _ 1 _ _ _ hR9
  have z0 := frozen_of_row w9 _ 0 _ _ hR9; have z1 := frozen_of_row w9 _ 1 _ _ hR9
  clear hv9 hu9 hap9 hb9 hR9
  go_wp2_with fail
  exact fin_arr rfl rfl rfl HR9.out HV9.out HU9.out HAP9.out HB9.out (by omega)
  done
set_option maxHeartbeats 4000000 in
theorem pd_drop (w : World) (v u v2 u2 : Value) (s d t e : List Int) (hs : SlA w v s) (hd : SlA w u d) (ht : SlA w v2 t) (he : SlA w u2 e) (hr1 : right s d = true) (hr2 : right t e = true) :
    Calls Try.prog 17 #[.int .u8 39, .agg #[v, u], .agg #[v2, u2]] w fun e' w' => RetArr w.heap.size (takeA s d t e true) e' w' ∧ Below w.heap.size w w' := by
  have HR1 := Lib.hid hr1; have HR2 := Lib.hid hr2
  have hs' := hs; have hd' := hd; have ht' := ht; have he' := he
  have HI := Lib.hid (fun W (hb : Below w.heap.size w W) => part_any W false v u v2 u2 s d t e (hs'.below hb) (hd'.below hb) (ht'.below hb) (he'.below hb) hr1 hr2)
  clear hr1 hr2 hs' hd' ht' he'
  have HS0 := Lib.hid hs.src; have HS1 := Lib.hid hd.src; have HS2 := Lib.hid ht.src; have HS3 := Lib.hid he.src
  obtain ⟨a0, c0, rfl, h01, h02, -, h04, -⟩ := hs
  obtain ⟨a1, c1, rfl, h11, h12, -, h14, hin⟩ := hd
  obtain ⟨a2, c2, rfl, h21, h22, -, h24, -⟩ := ht
  obtain ⟨a3, c3, rfl, h31, h32, -, h34, hie⟩ := he
  have h02' : c0 ≤ 9223372036854775807 := h02
  have h12' : c1 ≤ 9223372036854775807 := h12
  have h22' : c2 ≤ 9223372036854775807 := h22
  have h32' : c3 ≤ 9223372036854775807 := h32
  have HM : Hid (s.length ≤ maxLen) := Lib.hid (Nat.le_trans h01 h02)
  have HM2 : Hid (t.length ≤ maxLen) := Lib.hid (Nat.le_trans h21 h22)
  have H0 := Lib.hid h04; have H1 := Lib.hid h14; have HIN := Lib.hid hin
  have H2 := Lib.hid h24; have H3 := Lib.hid h34; have HIE := Lib.hid hie
  have HO := Lib.hid (Duo.mk0 w (.slice a0 s.length c0) (.slice a1 d.length c1) (.slice a2 t.length c2) (.slice a3 e.length c3))
  obtain ⟨r, HRR⟩ : ∃ r, Hid ((takeA s d t e true) = r) := ⟨_, Lib.hid rfl⟩
  rw [HRR.out]
  clear h04 h14 h24 h34 h02 h12 h22 h32 hin hie
  rw [show takeA s d t e (!false) = r from HRR.out] at HI
  go_enter Try.func17, Try.ntmps17
  go_upto_region 1 with fail
  refine gen_worldA (fun W => Duo w W (.slice a0 s.length c0) (.slice a1 d.length c1) (.slice a2 t.length c2) (.slice a3 e.length c3)) HO.out ?_
  rintro W1 hO
  have HO2 := Lib.hid hO
  have x0 := hO.c0; have x1 := hO.c1; have x2 := hO.c2; have x3 := hO.c3
  clear HO hO
  have hq := right_any W1 a0 a1 c0 c1 s d HM.out (H0.out.below HO2.out.b (Nat.le_refl _))
  rw [HR1.out] at hq
  have HQ := Lib.hid hq
  clear hq
  go_wp2_with fail
  refine HQ.out.mono ?_
  rintro e' W2 ⟨rfl, hb2⟩
  have HO3 := Lib.hid (HO2.out.next hb2)
  have hq := right_any W2 a2 a3 c2 c3 t e HM2.out (H2.out.below HO3.out.b (Nat.le_refl _))
  rw [HR2.out] at hq
  clear HQ x0 x1 x2 x3
  have HQ := Lib.hid hq
  have x2 := HO3.out.c2; have x3 := HO3.out.c3
  clear hq hb2 HO2
  go_wp2_with fail
  refine HQ.out.mono ?_
  rintro e' W3 ⟨rfl, hb3⟩
  have HO4 := Lib.hid (HO3.out.next hb3)
  clear HQ x2 x3 hb3 HO3
  have x0 := HO4.out.c0; have x1 := HO4.out.c1; have x2 := HO4.out.c2; have x3 := HO4.out.c3
  have hq := retB HO4.out.b.size (Hid.out HI W3 HO4.out.b)
  have HQ := Lib.hid hq; have HR := Lib.hid HO4.out.r; have HB := Lib.hid HO4.out.b
  clear hq
  go_wp2_with fail
  refine (Hid.out HQ).mono ?_
  rintro e w9 ⟨⟨v9, u9, rfl, hv9, hu9, hap9⟩, hb9⟩
  have hR9 := block_below (Hid.out HR) hb9
  have HV9 := Lib.hid hv9; have HU9 := Lib.hid hu9; have HAP9 := Lib.hid hap9; have HR9 := Lib.hid hR9
  have HB9 := Lib.hid (bNext hb9 (Hid.out HB))
  obtain ⟨a9, c9, rfl, -, -⟩ := RowI.slice hv9
  obtain ⟨a8, c8, rfl, -, -⟩ := RowI.slice hu9
  have g0 := cell_of_row w9 _ 0 _ _ _ hR9; have g1 := cell_of_row w9 _ 1 _ _ _ hR9
  have z0 := frozen_of_row w9 _ 0 _ _ hR9; have z1 := frozen_of_row w9 _ 1 _ _ hR9
  clear hv9 hu9 hap9 hb9 hR9
  go_wp2_with fail
  exact fin_arr rfl rfl rfl HR9.out HV9.out HU9.out HAP9.out HB9.out (by omega)
  done
set_option maxHeartbeats 4000000 in
theorem pd_cat (w : World) (v u v2 u2 : Value) (s d t e : List Int) (hs : SlA w v s) (hd : SlA w u d) (ht : SlA w v2 t) (he : SlA w u2 e) (hr1 : right s d = true) (hr2 : right t e = true) :
    Calls Try.prog 17 #[.int .u8 40, .agg #[v, u], .agg #[v2, u2]] w fun e' w' => RetArr w.heap.size (catA s d t e) e' w' ∧ Below w.heap.size w w' := by
  have HR1 := Lib.hid hr1; have HR2 := Lib.hid hr2
  have hs' := hs; have hd' := hd; have ht' := ht; have he' := he
  have HI := Lib.hid (fun W (hb : Below w.heap.size w W) => cat_any W v u v2 u2 s d t e (hs'.below hb) (hd'.below hb) (ht'.below hb) (he'.below hb) hr1 hr2)
  clear hr1 hr2 hs' hd' ht' he'
  have HS0 := Lib.hid hs.src; have HS1 := Lib.hid hd.src; have HS2 := Lib.hid ht.src; have HS3 := Lib.hid he.src
  obtain ⟨a0, c0, rfl, h01, h02, -, h04, -⟩ := hs
  obtain ⟨a1, c1, rfl, h11, h12, -, h14, hin⟩ := hd
  obtain ⟨a2, c2, rfl, h21, h22, -, h24, -⟩ := ht
  obtain ⟨a3, c3, rfl, h31, h32, -, h34, hie⟩ := he
  have h02' : c0 ≤ 9223372036854775807 := h02
  have h12' : c1 ≤ 9223372036854775807 := h12
  have h22' : c2 ≤ 9223372036854775807 := h22
  have h32' : c3 ≤ 9223372036854775807 := h32
  have HM : Hid (s.length ≤ maxLen) := Lib.hid (Nat.le_trans h01 h02)
  have HM2 : Hid (t.length ≤ maxLen) := Lib.hid (Nat.le_trans h21 h22)
  have H0 := Lib.hid h04; have H1 := Lib.hid h14; have HIN := Lib.hid hin
  have H2 := Lib.hid h24; have H3 := Lib.hid h34; have HIE := Lib.hid hie
  have HO := Lib.hid (Duo.mk0 w (.slice a0 s.length c0) (.slice a1 d.length c1) (.slice a2 t.length c2) (.slice a3 e.length c3))
  obtain ⟨r, HRR⟩ : ∃ r, Hid ((catA s d t e) = r) := ⟨_, Lib.hid rfl⟩
  rw [HRR.out]
  clear h04 h14 h24 h34 h02 h12 h22 h32 hin hie
  rw [HRR.out] at HI
  go_enter Try.func17, Try.ntmps17
  go_upto_region 1 with fail
  refine gen_worldA (fun W => Duo w W (.slice a0 s.length c0) (.slice a1 d.length c1) (.slice a2 t.length c2) (.slice a3 e.length c3)) HO.out ?_
  rintro W1 hO
  have HO2 := Lib.hid hO
  have x0 := hO.c0; have x1 := hO.c1; have x2 := hO.c2; have x3 := hO.c3
  clear HO hO
  have hq := right_any W1 a0 a1 c0 c1 s d HM.out (H0.out.below HO2.out.b (Nat.le_refl _))
  rw [HR1.out] at hq
  have HQ := Lib.hid hq
  clear hq
  go_wp2_with fail
  refine HQ.out.mono ?_
  rintro e' W2 ⟨rfl, hb2⟩
  have HO3 := Lib.hid (HO2.out.next hb2)
  have hq := right_any W2 a2 a3 c2 c3 t e HM2.out (H2.out.below HO3.out.b (Nat.le_refl _))
  rw [HR2.out] at hq
  clear HQ x0 x1 x2 x3
  have HQ := Lib.hid hq
  have x2 := HO3.out.c2; have x3 := HO3.out.c3
  clear hq hb2 HO2
  go_wp2_with fail
  refine HQ.out.mono ?_
  rintro e' W3 ⟨rfl, hb3⟩
  have HO4 := Lib.hid (HO3.out.next hb3)
  clear HQ x2 x3 hb3 HO3
  have x0 := HO4.out.c0; have x1 := HO4.out.c1; have x2 := HO4.out.c2; have x3 := HO4.out.c3
  have hq := retB HO4.out.b.size (Hid.out HI W3 HO4.out.b)
  have HQ := Lib.hid hq; have HR := Lib.hid HO4.out.r; have HB := Lib.hid HO4.out.b
  clear hq
  go_wp2_with fail
  refine (Hid.out HQ).mono ?_
  rintro e w9 ⟨⟨v9, u9, rfl, hv9, hu9, hap9⟩, hb9⟩
  have hR9 := block_below (Hid.out HR) hb9
  have HV9 := Lib.hid hv9; have HU9 := Lib.hid hu9; have HAP9 := Lib.hid hap9; have HR9 := Lib.hid hR9
  have HB9 := Lib.hid (bNext hb9 (Hid.out HB))
  obtain ⟨a9, c9, rfl, -, -⟩ := RowI.slice hv9
  obtain ⟨a8, c8, rfl, -, -⟩ := RowI.slice hu9
  have g0 := cell_of_row w9 _ 0 _ _ _ hR9; have g1 := cell_of_row w9 _ 1 _ _ _ hR9
  have z0 := frozen_of_row w9 _ 0 _ _ hR9; have z1 := frozen_of_row w9 _ 1 _ _ hR9
  clear hv9 hu9 hap9 hb9 hR9
  go_wp2_with fail
  exact fin_arr rfl rfl rfl HR9.out HV9.out HU9.out HAP9.out HB9.out (by omega)
  done
set_option maxHeartbeats 4000000 in
theorem pd_no (w : World) (f : Int) (v u v2 u2 : Value) (s d t e : List Int) (hs : SlA w v s) (hd : SlA w u d) (ht : SlA w v2 t) (he : SlA w u2 e) (hr1 : right s d = true) (hr2 : right t e = true) (hf : f < 37 ∨ 40 < f) (htk : takes f true = false) :
    Calls Try.prog 17 #[.int .u8 f, .agg #[v, u], .agg #[v2, u2]] w fun e' w' => RetArr w.heap.size (noA 70) e' w' ∧ Below w.heap.size w w' := by
  have g0 : (f == 37) = false := by rw [beq_eq_false_iff_ne]; omega
  have g1 : (f == 38) = false := by rw [beq_eq_false_iff_ne]; omega
  have g2 : (f == 39) = false := by rw [beq_eq_false_iff_ne]; omega
  have g3 : (f == 40) = false := by rw [beq_eq_false_iff_ne]; omega
  have HR1 := Lib.hid hr1; have HR2 := Lib.hid hr2
  have HT := Lib.hid (fun W => takes_at W f true false htk)
  clear hr1 hr2 hf htk
  have HS0 := Lib.hid hs.src; have HS1 := Lib.hid hd.src; have HS2 := Lib.hid ht.src; have HS3 := Lib.hid he.src
  obtain ⟨a0, c0, rfl, h01, h02, -, h04, -⟩ := hs
  obtain ⟨a1, c1, rfl, h11, h12, -, h14, hin⟩ := hd
  obtain ⟨a2, c2, rfl, h21, h22, -, h24, -⟩ := ht
  obtain ⟨a3, c3, rfl, h31, h32, -, h34, hie⟩ := he
  have h02' : c0 ≤ 9223372036854775807 := h02
  have h12' : c1 ≤ 9223372036854775807 := h12
  have h22' : c2 ≤ 9223372036854775807 := h22
  have h32' : c3 ≤ 9223372036854775807 := h32
  have HM : Hid (s.length ≤ maxLen) := Lib.hid (Nat.le_trans h01 h02)
  have HM2 : Hid (t.length ≤ maxLen) := Lib.hid (Nat.le_trans h21 h22)
  have H0 := Lib.hid h04; have H1 := Lib.hid h14; have HIN := Lib.hid hin
  have H2 := Lib.hid h24; have H3 := Lib.hid h34; have HIE := Lib.hid hie
  have HO := Lib.hid (Duo.mk0 w (.slice a0 s.length c0) (.slice a1 d.length c1) (.slice a2 t.length c2) (.slice a3 e.length c3))
  obtain ⟨r, HRR⟩ : ∃ r, Hid ((noA 70) = r) := ⟨_, Lib.hid rfl⟩
  rw [HRR.out]
  clear h04 h14 h24 h34 h02 h12 h22 h32 hin hie
  go_enter Try.func17, Try.ntmps17
  go_upto_region 1 with fail
  refine gen_worldA (fun W => Duo w W (.slice a0 s.length c0) (.slice a1 d.length c1) (.slice a2 t.length c2) (.slice a3 e.length c3)) HO.out ?_
  rintro W1 hO
  have HO2 := Lib.hid hO
  have x0 := hO.c0; have x1 := hO.c1; have x2 := hO.c2; have x3 := hO.c3
  clear HO hO
  have hq := right_any W1 a0 a1 c0 c1 s d HM.out (H0.out.below HO2.out.b (Nat.le_refl _))
  rw [HR1.out] at hq
  have HQ := Lib.hid hq
  clear hq
  go_wp2_with fail
  refine HQ.out.mono ?_
  rintro e' W2 ⟨rfl, hb2⟩
  have HO3 := Lib.hid (HO2.out.next hb2)
  have hq := right_any W2 a2 a3 c2 c3 t e HM2.out (H2.out.below HO3.out.b (Nat.le_refl _))
  rw [HR2.out] at hq
  clear HQ x0 x1 x2 x3
  have HQ := Lib.hid hq
  have x2 := HO3.out.c2; have x3 := HO3.out.c3
  clear hq hb2 HO2
  go_wp2_with fail
  refine HQ.out.mono ?_
  rintro e' W3 ⟨rfl, hb3⟩
  have HO4 := Lib.hid (HO3.out.next hb3)
  clear HQ x2 x3 hb3 HO3
  have x0 := HO4.out.c0; have x1 := HO4.out.c1; have x2 := HO4.out.c2; have x3 := HO4.out.c3
  have HQ0 := Lib.hid (HT.out W3)
  go_wp2_with fail
  refine HQ0.out.mono ?_
  rintro e' W4 ⟨rfl, rfl⟩
  have hq := fault_at W3 w.heap.size HO4.out.b.size 70 r HRR.out
  have HQ := Lib.hid hq; have HR := Lib.hid HO4.out.r; have HB := Lib.hid HO4.out.b
  clear hq HQ0 HT
  go_wp2_with fail
  refine (Hid.out HQ).mono ?_
  rintro e w9 ⟨⟨v9, u9, rfl, hv9, hu9, hap9⟩, hb9⟩
  have hR9 := block_below (Hid.out HR) hb9
  have HV9 := Lib.hid hv9; have HU9 := Lib.hid hu9; have HAP9 := Lib.hid hap9; have HR9 := Lib.hid hR9
  have HB9 := Lib.hid (bNext hb9 (Hid.out HB))
  obtain ⟨a9, c9, rfl, -, -⟩ := RowI.slice hv9
  obtain ⟨a8, c8, rfl, -, -⟩ := RowI.slice hu9
  have g0 := cell_of_row w9 _ 0 _ _ _ hR9; have g1 := cell_of_row w9 _ 1 _ _ _ hR9
  have z0 := frozen_of_row w9 _ 0 _ _ hR9; have z1 := frozen_of_row w9 _ 1 _ _ hR9
  clear hv9 hu9 hap9 hb9 hR9
  go_wp2_with fail
  exact fin_arr rfl rfl rfl HR9.out HV9.out HU9.out HAP9.out HB9.out (by omega)
end Go.Proofs.Ytmjkncmpanhgjaa
