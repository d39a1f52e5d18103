import Derived.Test.YtegjcghcknpjeaaP16
import Derived.Test.YtegjcghcknpjeaaP13
import Derived.Test.YtegjcghcknpjeaaRows1
namespace Go.Proofs.Ytegjcghcknpjeaa
open Go.RowKit

def encS (t : Int × Int) : List Value := [.int .i64 t.1, .int .i64 t.2]
structure spotWf (t : Int × Int) : Prop where
  mark : -9223372036854775808 ≤ t.1 ∧ t.1 ≤ 9223372036854775807
  pl : -9223372036854775808 ≤ t.2 ∧ t.2 ≤ 9223372036854775807
theorem encS_len (t : Int × Int) : (encS t).length = 2 := rfl
theorem encS_one (t : Int × Int) : ∀ v ∈ encS t, v.oneCell' = true := by intro v hv; simp [encS] at hv; rcases hv with rfl | rfl <;> rfl
def spotRep : Rep (Int × Int) := Rep.flat 2 encS spotWf encS_len encS_one
def RowS (B : Nat) (w : World) (v : Value) (xs : List (Int × Int)) : Prop := w.ownsRow B 57 2 v xs.length (xs.flatMap encS)
theorem RowS.nil (B : Nat) (w : World) : RowS B w (.slice none 0 0) [] := World.ownsRow_nil w B 57 2
theorem RowS.sl {B : Nat} {w : World} {v : Value} {xs : List (Int × Int)} (h : RowS B w v xs) (hw : ∀ x ∈ xs, spotWf x) : spotRep.Sl w v xs := flat_own encS_len encS_one h hw
theorem els_spot {w : World} {a : Option Addr} {xs : List (Int × Int)} (h : spotRep.Els w a xs) {k : Nat} (hk : k < xs.length) : ∃ b off, a = some ⟨b, off, none⟩ ∧ spotWf xs[k] ∧
    w.cell? ⟨b, off + k * 2, none⟩ = some (.int .i64 xs[k].1) ∧ w.cell? ⟨b, off + k * 2 + 1, none⟩ = some (.int .i64 xs[k].2) := by
  obtain ⟨b, off, cs, e, ⟨rfl, hw⟩, hc⟩ := h k hk
  exact ⟨b, off, e, hw, hc 0 _ rfl, hc 1 _ rfl⟩
theorem Try.infoS : (Try.prog.info? 57).map (fun i => (i.zero, i.size, i.bytes)) = some (some (.agg #[.int .i64 0, .int .i64 0]), 2, 16) := by kernel_rfl
theorem RowS.of_append {B : Nat} {w : World} {v : Value} {l : List (Int × Int)} {n : Nat} {p : Int × Int} (hn : l.length = n) (h : w.ownsRow B 57 2 v (n + 1) (l.flatMap encS ++ encS p)) : RowS B w v (l ++ [p]) := by
  unfold RowS
  rw [List.length_append, hn, List.flatMap_append]
  simpa using h

set_option maxHeartbeats 2000000 in
theorem ahead_any (w : World) (x y : Int × Int) : Calls Try.prog 38 #[.agg #[.int .i64 x.1, .int .i64 x.2], .agg #[.int .i64 y.1, .int .i64 y.2]] w fun e w' => e = .returned (.bool (aheadB x y)) ∧ Below w.heap.size w w' := by
  obtain ⟨a, b⟩ := x
  obtain ⟨c, d⟩ := y
  dsimp only
  have hb : ∀ o p, Below w.heap.size w ((w.alloc o).alloc p) := fun o p => ((Below.refl _ _).alloc (Nat.le_refl _) o).alloc (by simp) p
  have HB := Lib.hid hb; clear hb
  by_cases h1 : a < c
  · have he : aheadB (a, b) (c, d) = true := by rw [aheadB_iff]; exact .inl h1
    have He := Lib.hid he; clear he
    go_enter Try.func38, Try.ntmps38
    go_wp2_with fail
    go_ret
    exact ⟨ret_bool He.out.symm, HB.out _ _⟩
  · have h1' : decide (a < c) = false := by simpa using h1
    by_cases h2 : a = c
    · subst h2
      by_cases h3 : b < d
      · have he : aheadB (a, b) (a, d) = true := by rw [aheadB_iff]; exact .inr ⟨rfl, h3⟩
        have He := Lib.hid he; clear he
        go_enter Try.func38, Try.ntmps38
        go_wp2_with fail
        go_ret
        exact ⟨ret_bool He.out.symm, HB.out _ _⟩
      · have h3' : decide (b < d) = false := by simpa using h3
        have he : aheadB (a, b) (a, d) = false := by rw [Bool.eq_false_iff]; intro h; rw [aheadB_iff] at h; simp only at h; omega
        have He := Lib.hid he; clear he
        go_enter Try.func38, Try.ntmps38
        go_wp2_with fail
        go_ret
        exact ⟨ret_bool He.out.symm, HB.out _ _⟩
    · have h2' : (a == c) = false := by simpa using h2
      have he : aheadB (a, b) (c, d) = false := by rw [Bool.eq_false_iff]; intro h; rw [aheadB_iff] at h; simp only at h; omega
      have He := Lib.hid he; clear he
      go_enter Try.func38, Try.ntmps38
      go_wp2_with fail
      go_ret
      exact ⟨ret_bool He.out.symm, HB.out _ _⟩

theorem spotTake {w : World} {a : Option Addr} {l : List (Int × Int)} (h : spotRep.Els w a l) (k : Nat) : spotRep.Els w a (l.take k) := by
  intro i hi
  simp at hi
  obtain ⟨b, off, cs, e, g1, g2⟩ := h i (by omega)
  exact ⟨b, off, cs, e, by rw [List.getElem_take]; exact g1, g2⟩
/-- what sorting hands back -/
def RetS (w : World) (l : List (Int × Int)) (e : Ending) (w' : World) : Prop := ∃ v s, e = .returned v ∧ spotRep.Sl w' v s ∧ s.Perm l ∧ Asc s ∧ Below w.heap.size w w'
theorem dist_take {l : List (Int × Int)} (h : Dist l) (k : Nat) : Dist (l.take k) := List.Pairwise.sublist (List.take_sublist k l) h
theorem dist_drop {l : List (Int × Int)} (h : Dist l) (k : Nat) : Dist (l.drop k) := List.Pairwise.sublist (List.drop_sublist k l) h
theorem dist_apart {l : List (Int × Int)} (h : Dist l) (k : Nat) : ∀ x ∈ l.take k, ∀ y ∈ l.drop k, x.2 ≠ y.2 := by
  have := List.take_append_drop k l
  unfold Dist at h
  rw [← this] at h
  exact (List.pairwise_append.1 h).2.2
theorem asc_short {l : List (Int × Int)} (h : l.length < 2) : Asc l := by
  match l, h with
  | [], _ => exact List.Pairwise.nil
  | [x], _ => exact List.pairwise_singleton _ _

set_option maxRecDepth 100000 in
set_option maxHeartbeats 8000000 in
theorem sorted_any (n : Nat) : ∀ (w : World) (a : Option Addr) (c : Nat) (l : List (Int × Int)), l.length ≤ n → l.length ≤ 32768 → Dist l → (∀ x ∈ l, spotWf x) → spotRep.Sl w (.slice a l.length c) l →
    Calls Try.prog 24 #[.slice a l.length c] w (RetS w l) := by
  induction n with
  | zero =>
    intro w a c l hn _ _ _ hs
    have hl : l.length < 2 := by omega
    have hl' : decide ((l.length : Int) < 2) = true := by simp; omega
    have HS := Lib.hid hs; clear hs
    go_enter Try.func24, Try.ntmps24
    go_wp2_with fail
    go_ret
    exact ⟨_, _, rfl, HS.out, List.Perm.refl _, asc_short hl, Below.refl _ _⟩
  | succ n ih =>
    intro w a c l hn hm hd hwf hs
    by_cases hl : l.length < 2
    · have hl' : decide ((l.length : Int) < 2) = true := by simp; omega
      have HS := Lib.hid hs; clear hs ih
      go_enter Try.func24, Try.ntmps24
      go_wp2_with fail
      go_ret
      exact ⟨_, _, rfl, HS.out, List.Perm.refl _, asc_short hl, Below.refl _ _⟩
    · have hl' : decide ((l.length : Int) < 2) = false := by simp; omega
      obtain ⟨a', c', e, hc1, hc2, hc3, hel⟩ := hs
      cases e
      have hne : ∃ b off, a = some ⟨b, off, none⟩ := by
        obtain ⟨b, off, e, _⟩ := els_spot hel (show 0 < l.length by omega)
        exact ⟨b, off, e⟩
      obtain ⟨b, off, rfl⟩ := hne
      have htl : (l.take (l.length / 2)).length = l.length / 2 := by simp; omega
      have hdl : (l.drop (l.length / 2)).length = l.length - l.length / 2 := by simp
      have k1 := fun W (hB : Below w.heap.size w W) => ih W (some ⟨b, off, none⟩) c (l.take (l.length / 2)) (by omega) (by omega) (dist_take hd _) (fun x hx => hwf x (List.mem_of_mem_take hx)) ⟨_, _, rfl, by omega, hc2, (fun e => by cases e), spotTake (hel.below spotRep hB (Nat.le_refl _)) _⟩
      have hdr : ∀ W, Below w.heap.size w W → spotRep.Els W (some ⟨b, off + l.length / 2 * 2, none⟩) (l.drop (l.length / 2)) := fun W hB i hi => by
        obtain ⟨b', off', cs, e, g1, g2⟩ := hel.below spotRep hB (Nat.le_refl _) (l.length / 2 + i) (by omega)
        cases e
        refine ⟨b, off + l.length / 2 * 2, cs, rfl, by rw [List.getElem_drop]; exact g1, fun j v hj => ?_⟩
        have := g2 j v hj
        rw [show off + l.length / 2 * 2 + i * spotRep.n + j = off + (l.length / 2 + i) * spotRep.n + j from by show off + l.length / 2 * 2 + i * 2 + j = off + (l.length / 2 + i) * 2 + j; omega]
        exact this
      have k2 := fun W (hB : Below w.heap.size w W) => ih W (some ⟨b, off + l.length / 2 * 2, none⟩) (c - l.length / 2) (l.drop (l.length / 2)) (by omega) (by omega) (dist_drop hd _) (fun x hx => hwf x (List.mem_of_mem_drop hx)) ⟨_, _, rfl, by omega, by omega, (fun e => by cases e), hdr W hB⟩
      rw [htl] at k1
      rw [hdl] at k2
      have hmem : ∀ (s1 s2 : List (Int × Int)), s1.Perm (l.take (l.length / 2)) → s2.Perm (l.drop (l.length / 2)) → Asc s1 → Asc s2 → (mergeS s1 s2).Perm l ∧ Asc (mergeS s1 s2) ∧ s1.length ≤ 32768 ∧ s2.length ≤ 32768 ∧ s1.length + s2.length = l.length ∧ (∀ x ∈ s1, spotWf x) ∧ (∀ x ∈ s2, spotWf x) := fun s1 s2 p1 p2 a1 a2 => by
        have e1 := p1.length_eq
        have e2 := p2.length_eq
        refine ⟨(mergeS_perm s1 s2).trans ((p1.append p2).trans (by rw [List.take_append_drop])), asc_merge s1 s2 a1 a2 fun x hx y hy => ahead_total (dist_apart hd _ x (p1.mem_iff.1 hx) y (p2.mem_iff.1 hy)), by omega, by omega, by omega, fun x hx => hwf x (List.mem_of_mem_take (p1.mem_iff.1 hx)), fun x hx => hwf x (List.mem_of_mem_drop (p2.mem_iff.1 hx))⟩
      have K1 := Lib.hid k1; have K2 := Lib.hid k2; have HM := Lib.hid hmem
      have hz1 : (l.length : Int) / 2 ≤ (c : Int) := by omega
      have hz2 : (0 : Int) ≤ (l.length : Int) / 2 := by omega
      have hz3 : (l.length : Int) / 2 ≤ (l.length : Int) := by omega
      have hz4 : l.length / 2 ≤ c := by omega
      have hz5 : l.length / 2 ≤ l.length := by omega
      have hz6 : l.length / 2 ≠ c := by omega
      obtain ⟨i0, hi, hy0, hy1, hy2⟩ := info_parts Try.infoS
      have Hi := Lib.hid hi; have Hz0 := Lib.hid hy0; have Hz1 := Lib.hid hy1; have Hz2 := Lib.hid hy2; clear hi hy0 hy1 hy2
      clear ih k1 k2 hmem hdr htl hdl hel hwf hd hc3
      go_enter Try.func24, Try.ntmps24
      go_wp2_with fail
      refine (K1.out _ (Below.refl _ _)).mono ?_
      rintro e w1 ⟨v1, s1, rfl, hs1, hp1, ha1, hb1⟩
      have HB1 := Lib.hid hb1
      have S1 := Lib.hid hs1; have P1 := Lib.hid hp1; have A1 := Lib.hid ha1
      clear hb1 hs1 hp1 ha1
      go_wp2_with fail
      refine (K2.out _ HB1.out).mono ?_
      rintro e w2 ⟨v2, s2, rfl, hs2, hp2, ha2, hb2⟩
      obtain ⟨q1, q2, q3, q4, q5, q6, q7⟩ := HM.out s1 s2 P1.out hp2 A1.out ha2
      have hs1 := S1.out.below spotRep hb2 (Nat.le_refl _)
      have HB2 := Lib.hid (bNext hb2 HB1.out)
      obtain ⟨a1, c1, rfl, _, _, _, he1⟩ := hs1
      obtain ⟨a2, c2, rfl, _, _, _, he2⟩ := hs2
      obtain ⟨R, hR⟩ : ∃ R, mergeS s1 s2 = R := ⟨_, rfl⟩
      rw [hR] at q1 q2
      have hRl : R.length = l.length := q1.length_eq
      have E1 := Lib.hid he1; have E2 := Lib.hid he2; have Q1 := Lib.hid q1; have Q2 := Lib.hid q2; have Q5 := Lib.hid q5; have HR := Lib.hid hR; have HRl := Lib.hid hRl
      have WF : Hid (∀ x ∈ R, spotWf x) := Lib.hid (fun x hx => by rw [← hR] at hx; rcases List.mem_append.1 ((mergeS_perm s1 s2).mem_iff.1 hx) with h | h; exact q6 x h; exact q7 x h)
      clear hb2 he1 he2 q1 q2 q5 q6 q7 hR hRl hp2 ha2 S1 P1 A1 HB1
      go_wp2_with fail
      go_loopw [5, 6, 7] (fun v i k wr => ∃ (p q : Nat) (out : List (Int × Int)), p ≤ s1.length ∧ q ≤ s2.length ∧ i = .int .i64 p ∧ k = .int .i64 q ∧ out ++ mergeS (s1.drop p) (s2.drop q) = R ∧ RowS w2.heap.size wr v out ∧ Below w2.heap.size w2 wr) (fun _ _ k _ => s2.length - (intOf k).toNat)
      case atStart => exact ⟨0, 0, [], Nat.zero_le _, Nat.zero_le _, rfl, rfl, by simpa using HR.out, RowS.nil _ _, Below.refl _ _⟩
      case round =>
        obtain ⟨p, q, out, hp, hq, rfl, rfl, he, hrow, hB⟩ := hrel
        by_cases hlt : q < s2.length
        · obtain ⟨bb, ob, rfl, -, y0, y1⟩ := els_spot (E2.out.below spotRep hB (Nat.le_refl _)) hlt
          have hzq0 : (0 : Int) ≤ (q : Int) := by omega
          have hzq1 : (q : Int) < (s2.length : Int) := by omega
          have He := Lib.hid he; have Hrow := Lib.hid hrow; have HB := Lib.hid hB
          clear he hrow hB y0 y1
          go_wp2_with fail
          obtain ⟨wo, rfl⟩ : ∃ wo : World, wo = wr := ⟨_, rfl⟩
          go_loopw [5, 6] (fun v i wr => ∃ (p : Nat) (out : List (Int × Int)), p ≤ s1.length ∧ i = .int .i64 p ∧ out ++ mergeS (s1.drop p) (s2.drop q) = R ∧ RowS w2.heap.size wr v out ∧ Below w2.heap.size w2 wr) (fun _ i _ => s1.length - (intOf i).toNat)
          case atStart => exact ⟨p, out, hp, rfl, He.out, Hrow.out, HB.out⟩
          case round =>
            clear He Hrow HB
            obtain ⟨p, out, hp, rfl, he, hrow, hB⟩ := hrel
            obtain ⟨bb', ob', e', -, y0, y1⟩ := els_spot (E2.out.below spotRep hB (Nat.le_refl _)) hlt
            cases e'
            have hol : out.length ≤ 32768 := by have := congrArg List.length he; simp at this; have := HRl.out; omega
            have hbs := hB.size
            by_cases hi : p < s1.length
            · obtain ⟨ba, oa, rfl, -, x0, x1⟩ := els_spot (E1.out.below spotRep hB (Nat.le_refl _)) hi
              have hm1 := @mergeS_step1 s1 s2 p q hi hlt
              have hm2 := fun h => @mergeS_step2 s1 s2 p q hlt h
              have hah := fun W => ahead_any W s1[p] s2[q]
              obtain ⟨x, hx⟩ : ∃ x, s1[p] = x := ⟨_, rfl⟩
              obtain ⟨y, hy⟩ : ∃ y, s2[q] = y := ⟨_, rfl⟩
              rw [hx] at x0 x1 hm1 hah
              rw [hy] at y0 y1 hm1 hm2 hah
              have hz0 : (0 : Int) ≤ (p : Int) := by omega
              have hz1 : (p : Int) < (s1.length : Int) := by omega
              cases hab : aheadB x y with
              | true =>
                have he2 : (out ++ [x]) ++ mergeS (s1.drop (p + 1)) (s2.drop q) = R := by rw [← he, hm1 hab]; simp
                rw [hab] at hah
                have HAh := Lib.hid hah; have He2 := Lib.hid he2; have HB := Lib.hid hB; have Hro := Lib.hid hrow
                clear hah he2 hB hrow hm1 hm2 he hx hy hab
                have f0 := cellBW x0; have f1 := cellBW x1; have f2 := cellBW y0; have f3 := cellBW y1
                go_wp2_with fail
                refine wp_region_below (by kernel_rfl) (by kernel_rfl) ?_
                repeat (go_big_quiet_step (refine callsBW (HAh.out _)))
                refine wpQuiet_nil ?_
                rintro wq ⟨⟨_, hwq⟩, rfl⟩
                clear f0 f1 f2 f3
                replace x0 := keepCell hwq x0; replace x1 := keepCell hwq x1
                have hbs2 : w2.heap.size ≤ wq.heap.size := Nat.le_trans hbs hwq.size
                have Hrow : Hid (wq.ownsRow w2.heap.size 57 2 u5 out.length (out.flatMap encS)) := Lib.hid (own_below Hro.out hwq)
                have HBq := Lib.hid (bNext hwq HB.out)
                clear hwq y0 y1
                go_wp2_with (at_builtin; (refine wpList_append_src _ rfl _ _ 55 rfl w2.heap.size 57 i0 _ 2 16 Try.underlying55 Hi.out Hz0.out Hz1.out Hz2.out rfl (by decide) _ out.length _ rfl (Hrow.out.alloc _) _ 1 (encS x) rfl (src_lit _ _ _ _ _ _ (by simp) rfl) rfl (encS_one _) (by unfold maxLen; omega) (by omega) (by simp; omega) ?_); intro v' w' hown hg _)
                go_roundw
                case rel => exact ⟨p + 1, out ++ [x], by omega, by go_num, He2.out, RowS.of_append rfl hown, (HBq.out.alloc HBq.out.size _).grown hg (Nat.le_trans HBq.out.size (by simp)) (fun j hj => (World.ownsRow.lt Hrow.out j hj).1)⟩
                case measure => simp [intOf]; omega
              | false =>
                have he2 : (out ++ [y]) ++ mergeS (s1.drop p) (s2.drop (q + 1)) = R := by rw [← he, hm2 (fun _ => by rw [hx]; exact hab)]; simp
                rw [hab] at hah
                have HAh := Lib.hid hah; have He2 := Lib.hid he2; have HB := Lib.hid hB; have Hro := Lib.hid hrow
                clear hah he2 hB hrow hm1 hm2 he hx hy hab
                have f0 := cellBW x0; have f1 := cellBW x1; have f2 := cellBW y0; have f3 := cellBW y1
                go_wp2_with fail
                refine wp_region_below (by kernel_rfl) (by kernel_rfl) ?_
                repeat (go_big_quiet_step (refine callsBW (HAh.out _)))
                refine wpQuiet_nil ?_
                rintro wq ⟨⟨_, hwq⟩, rfl⟩
                clear f0 f1 f2 f3
                replace y0 := keepCell hwq y0; replace y1 := keepCell hwq y1
                have hbs2 : w2.heap.size ≤ wq.heap.size := Nat.le_trans hbs hwq.size
                have Hrow : Hid (wq.ownsRow w2.heap.size 57 2 u5 out.length (out.flatMap encS)) := Lib.hid (own_below Hro.out hwq)
                have HBq := Lib.hid (bNext hwq HB.out)
                clear hwq x0 x1
                go_wp2_with (at_builtin; (refine wpList_append_src _ rfl _ _ 55 rfl w2.heap.size 57 i0 _ 2 16 Try.underlying55 Hi.out Hz0.out Hz1.out Hz2.out rfl (by decide) _ out.length _ rfl (Hrow.out.alloc _) _ 1 (encS y) rfl (src_lit _ _ _ _ _ _ (by simp) rfl) rfl (encS_one _) (by unfold maxLen; omega) (by omega) (by simp; omega) ?_); intro v' w' hown hg _)
                go_roundw
                case rel => exact ⟨p, q + 1, out ++ [y], hp, by omega, rfl, by go_num, He2.out, RowS.of_append rfl hown, (HBq.out.alloc HBq.out.size _).grown hg (Nat.le_trans HBq.out.size (by simp)) (fun j hj => (World.ownsRow.lt Hrow.out j hj).1)⟩
                case measure => simp [intOf]; omega
            · have hm2 := @mergeS_step2 s1 s2 p q hlt (fun h => absurd h hi)
              obtain ⟨y, hy⟩ : ∃ y, s2[q] = y := ⟨_, rfl⟩
              rw [hy] at y0 y1 hm2
              have he2 : (out ++ [y]) ++ mergeS (s1.drop p) (s2.drop (q + 1)) = R := by rw [← he, hm2]; simp
              have hi' : decide (p < s1.length) = false := by simpa using hi
              have He2 := Lib.hid he2; have HBq := Lib.hid (hB.trans (Below.drewN wr 0)); have HB := Lib.hid hB; have Hro := Lib.hid hrow
              clear he2 hB hrow hm2 he hy HBq
              go_wp2_with fail
              refine wp_region_below (by kernel_rfl) (by kernel_rfl) ?_
              repeat (go_big_quiet_step (fail))
              refine wpQuiet_nil ?_
              rintro wq ⟨⟨_, hwq⟩, rfl⟩
              replace y0 := keepCell hwq y0; replace y1 := keepCell hwq y1
              have hbs2 : w2.heap.size ≤ wq.heap.size := Nat.le_trans hbs hwq.size
              have Hrow : Hid (wq.ownsRow w2.heap.size 57 2 u5 out.length (out.flatMap encS)) := Lib.hid (own_below Hro.out hwq)
              have HBq := Lib.hid (bNext hwq HB.out)
              clear hwq
              go_wp2_with (at_builtin; (refine wpList_append_src _ rfl _ _ 55 rfl w2.heap.size 57 i0 _ 2 16 Try.underlying55 Hi.out Hz0.out Hz1.out Hz2.out rfl (by decide) _ out.length _ rfl (Hrow.out.alloc _) _ 1 (encS y) rfl (src_lit _ _ _ _ _ _ (by simp) rfl) rfl (encS_one _) (by unfold maxLen; omega) (by omega) (by simp; omega) ?_); intro v' w' hown hg _)
              go_roundw
              case rel => exact ⟨p, q + 1, out ++ [y], hp, by omega, rfl, by go_num, He2.out, RowS.of_append rfl hown, (HBq.out.alloc HBq.out.size _).grown hg (Nat.le_trans HBq.out.size (by simp)) (fun j hj => (World.ownsRow.lt Hrow.out j hj).1)⟩
              case measure => simp [intOf]; omega
        · have he2 : out ++ s1.drop p = R := by rw [← he, mergeS_end (by omega)]
          have He := Lib.hid he2; have Hrow := Lib.hid hrow; have HB := Lib.hid hB
          clear he he2 hrow hB
          go_wp2_with fail
          obtain ⟨wo, rfl⟩ : ∃ wo : World, wo = wr := ⟨_, rfl⟩
          go_loopw [5, 6] (fun v i wr => ∃ (p : Nat) (out : List (Int × Int)), p ≤ s1.length ∧ i = .int .i64 p ∧ out ++ s1.drop p = R ∧ RowS w2.heap.size wr v out ∧ Below w2.heap.size w2 wr) (fun _ i _ => s1.length - (intOf i).toNat)
          case atStart => exact ⟨p, out, hp, rfl, He.out, Hrow.out, HB.out⟩
          case round =>
            clear He Hrow HB
            obtain ⟨p, out, hp, rfl, he, hrow, hB⟩ := hrel
            have hol : out.length ≤ 32768 := by have := congrArg List.length he; simp at this; have := HRl.out; omega
            have hbs := hB.size
            by_cases hi : p < s1.length
            · obtain ⟨ba, oa, rfl, -, x0, x1⟩ := els_spot (E1.out.below spotRep hB (Nat.le_refl _)) hi
              rw [List.drop_eq_getElem_cons hi] at he
              obtain ⟨x, hx⟩ : ∃ x, s1[p] = x := ⟨_, rfl⟩
              rw [hx] at x0 x1 he
              have he2 : (out ++ [x]) ++ s1.drop (p + 1) = R := by rw [← he]; simp
              have hz0 : (0 : Int) ≤ (p : Int) := by omega
              have hz1 : (p : Int) < (s1.length : Int) := by omega
              have He2 := Lib.hid he2; have HBq := Lib.hid hB
              have Hrow : Hid (wr.ownsRow w2.heap.size 57 2 u5 out.length (out.flatMap encS)) := Lib.hid hrow
              clear he he2 hB hrow hx
              go_wp2_with (at_builtin; (refine wpList_append_src _ rfl _ _ 55 rfl w2.heap.size 57 i0 _ 2 16 Try.underlying55 Hi.out Hz0.out Hz1.out Hz2.out rfl (by decide) _ out.length _ rfl (Hrow.out.alloc _) _ 1 (encS x) rfl (src_lit _ _ _ _ _ _ (by simp) rfl) rfl (encS_one _) (by unfold maxLen; omega) (by omega) (by simp; omega) ?_); intro v' w' hown hg _)
              go_roundw
              case rel => exact ⟨p + 1, out ++ [x], by omega, by go_num, He2.out, RowS.of_append rfl hown, (HBq.out.alloc HBq.out.size _).grown hg (Nat.le_trans HBq.out.size (by simp)) (fun j hj => (World.ownsRow.lt Hrow.out j hj).1)⟩
              case measure => simp [intOf]; omega
            · obtain rfl : p = s1.length := by omega
              have he2 : out = R := by rw [← he]; simp
              subst he2
              have HBq := Lib.hid hB; have Hrow := Lib.hid hrow
              clear he hB hrow
              go_wp2_with fail
              go_ret
              exact ⟨_, _, rfl, RowS.sl Hrow.out WF.out, Q1.out, Q2.out, bNext HBq.out HB2.out⟩
end Go.Proofs.Ytegjcghcknpjeaa
