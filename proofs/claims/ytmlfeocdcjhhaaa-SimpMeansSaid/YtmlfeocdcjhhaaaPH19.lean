import Derived.Test.YtmlfeocdcjhhaaaPH18
import Derived.Test.YtmlfeocdcjhhaaaPH8
import Derived.Test.YtmlfeocdcjhhaaaPH4
import Derived.Test.YtmlfeocdcjhhaaaPH7
import Derived.Test.YtmlfeocdcjhhaaaPH1
namespace Go.Proofs.Ytmlfeocdcjhhaaa
set_option maxRecDepth 100000
open Go.RowKit
set_option linter.unusedVariables false
set_option linter.unusedSimpArgs false
attribute [local go_sem ↓] Go.wp_at_zero Go.wp_at_succ

theorem any_zero {l : List Int} (hb : ∀ x ∈ l, 0 ≤ x ∧ x ≤ 65536) (h : (l.any fun x => x == 0) = false) : ∀ x ∈ l, 1 ≤ x ∧ x ≤ 65536 := fun x hx => by
  have := List.any_eq_false.1 h x hx
  have h2 := hb x hx
  simp at this
  omega
theorem mul_bd {a n : Int} (h0 : 0 ≤ a) (h1 : a ≤ 65536) (h2 : 1 ≤ n) (h3 : n ≤ 65536) : 0 ≤ a * n ∧ a * n ≤ 4294967296 :=
  ⟨Int.mul_nonneg h0 (by omega), by have := Int.mul_le_mul h1 h3 (by omega) (by omega); omega⟩
set_option maxHeartbeats 16000000 in
theorem csize_any (w : World) (a : Option Addr) (c : Nat) (sides : List (List Mono)) (hse : polyRep.Els w a sides) (hsl : sides.length ≤ 1048576) (ad : Option Addr) (cd : Nat) (D : List Int) (hd : IntsAt .i64 w ad D) (hld : D.length ≤ 9223372036854775807) :
    Calls Try.prog 70 #[.slice a sides.length c, .slice ad D.length cd] w fun e w' => e = twoB (sizeS D sides) ∧ Below w.heap.size w w' := by
  obtain ⟨i0, hi, hz0, hz1, hz2⟩ := info_parts Try.info2
  have Hi := Lib.hid hi; have Hz0 := Lib.hid hz0; have Hz1 := Lib.hid hz1; have Hz2 := Lib.hid hz2; clear hi hz0 hz1 hz2
  have HSE := Lib.hid hse; have HD := Lib.hid hd
  clear hse hd
  go_enter Try.func70, Try.ntmps70
  go_wp2
  go_loopw [6, 16] (fun v i wr => ∃ (k : Nat) (l : List Int), k ≤ sides.length ∧ i = .int .i64 k ∧ l.length = k ∧ valsO D sides [] = valsO D (sides.drop k) l ∧ RowI w.heap.size wr v l ∧ (∀ x ∈ l, 0 ≤ x ∧ x ≤ 65536) ∧ Below w.heap.size w wr) (fun _ i _ => sides.length - (intOf i).toNat)
  case atStart => exact ⟨0, [], Nat.zero_le _, rfl, rfl, rfl, RowI.nil _ _, by simp, Below.refl _ _⟩
  case round =>
    obtain ⟨k, l, hk, rfl, hl, hv, hrow, hbd, hB⟩ := hrel
    have Hl := Lib.hid hl; have Hv := Lib.hid hv; have Hrow := Lib.hid hrow; have Hbd := Lib.hid hbd; have HB := Lib.hid hB
    clear hl hv hrow hbd
    have hz0 : (0 : Int) ≤ (k : Int) := by omega
    by_cases hlt : k < sides.length
    · have hz1 : (k : Int) < (sides.length : Int) := by omega
      obtain ⟨b, off, cs, rfl, ⟨v, rfl, hs⟩, hc⟩ := (HSE.out.below polyRep hB (Nat.le_refl _)) k hlt
      have e0 := hc 0 _ rfl
      simp only [show polyRep.n = 1 from rfl, Nat.add_zero, Nat.mul_one] at e0
      obtain ⟨pa, pc, rfl, hpl, hpe⟩ := Rep.Sl.form hs
      have hq := eval_any wr pa pc sides[k] ad cd D hpe hpl (HD.out.below hB (Nat.le_refl _)) hld
      obtain ⟨p, hp⟩ : ∃ p, sides[k] = p := ⟨_, rfl⟩
      rw [hp] at hq e0
      have HN : Hid (sideO D p = none → sizeS D sides = (0, false)) := Lib.hid fun h => by unfold sizeS; rw [Hv.out, vals_none hlt _ (by rw [hp]; exact h)]
      have HG : Hid (∀ n, sideO D p = some n → valsO D sides [] = valsO D (sides.drop (k + 1)) (l ++ [n])) := Lib.hid fun n h => by rw [Hv.out, vals_step hlt _ (by rw [hp]; exact h)]
      have HSB : Hid ((evalS p D).2 ≠ 0 ∨ (evalS p D).1 < 0 ∨ 65536 < (evalS p D).1 → sideO D p = none) := Lib.hid side_bad
      have HSG : Hid ((evalS p D).2 = 0 → 0 ≤ (evalS p D).1 → (evalS p D).1 ≤ 65536 → sideO D p = some (evalS p D).1) := Lib.hid side_good
      obtain ⟨r, hr⟩ : ∃ r, evalS p D = r := ⟨_, rfl⟩
      rw [hr] at hq HSB HSG
      obtain ⟨x, e⟩ := r
      unfold two at hq
      dsimp only at hq HSB HSG
      have HQ := Lib.hid hq
      clear hq hs hc hpe hp hr hB
      by_cases c0 : e = 0
      case neg =>
        have c0' : (e != 0) = true := by simp [c0]
        have HR := Lib.hid (HN.out (HSB.out (.inl c0)))
        clear c0
        go_wp2_with (go_at_call 121; refine HQ.out.mono ?_; rintro e w2 ⟨rfl, hb2⟩)
        go_ret2
        exact ⟨ret_twoB HR.out, bNext hb2 HB.out⟩
      subst c0
      by_cases c1 : x < 0
      · have HR := Lib.hid (HN.out (HSB.out (.inr (.inl c1))))
        go_wp2_with (go_at_call 121; refine HQ.out.mono ?_; rintro e w2 ⟨rfl, hb2⟩)
        go_ret2
        exact ⟨ret_twoB HR.out, bNext hb2 HB.out⟩
      have c1' : decide (x < 0) = false := by simpa using c1
      by_cases c2 : 65536 < x
      · have HR := Lib.hid (HN.out (HSB.out (.inr (.inr c2))))
        go_wp2_with (go_at_call 121; refine HQ.out.mono ?_; rintro e w2 ⟨rfl, hb2⟩)
        go_ret2
        exact ⟨ret_twoB HR.out, bNext hb2 HB.out⟩
      have c2' : decide (65536 < x) = false := by simpa using c2
      have HR := Lib.hid (HG.out x (HSG.out rfl (by omega) (by omega)))
      go_upto_region 8 with (go_at_call 121; refine HQ.out.mono ?_; rintro e w2 ⟨rfl, hb2⟩)
      have Hrow2 := Lib.hid (Hrow.out.below hb2)
      have HB2 := Lib.hid (bNext hb2 HB.out)
      clear hb2 HQ e0
      go_wp2_with (at_builtin; (refine wpList_append_own _ rfl _ _ 50 rfl w.heap.size 2 i0 (.int .i64 0) 1 8 Try.underlying50 Hi.out Hz0.out Hz1.out Hz2.out rfl (by decide) _ l.length (l.map (Value.int .i64)) rfl (World.ownsRow.alloc Hrow2.out _) ⟨w2.heap.size, 0, none⟩ 1 1 [.int .i64 x] rfl rfl (cell_one_new _ _ _) (oneCell_ints .i64 [x]) (by have := Hl.out; unfold maxLen; omega) (by have := Hl.out; omega) (by have := HB2.out.size; simp; omega) ?_))
      intro v' w5 hown hgrow _
      have hrow5 : RowI w.heap.size w5 v' (l ++ [x]) := by
        unfold RowI; rw [List.length_append, List.map_append]; exact hown
      have Hrow5 := Lib.hid hrow5; have HGR := Lib.hid hgrow
      clear hown hgrow hrow5
      go_wp2_with fail
      go_roundw
      case rel => exact ⟨k + 1, l ++ [x], by omega, by go_num, by rw [List.length_append, Hl.out]; rfl, HR.out, Hrow5.out, (fun y hy => by
        rcases List.mem_append.1 hy with h | h
        · exact Hbd.out y h
        · cases List.mem_singleton.1 h; omega), (HB2.out.alloc HB2.out.size _).grown HGR.out (by have := HB2.out.size; simp; omega) (fun j hj => (World.ownsRow.lt Hrow2.out j hj).1)⟩
      case measure => simp [intOf]; omega
    · have ek : k = sides.length := by omega
      subst ek
      have hS : sizeS D sides = sizeP l := by unfold sizeS; rw [Hv.out, List.drop_length]; rfl
      obtain ⟨va, vc, rfl, hvl, hvi⟩ := Hrow.out.slice
      have hll : l.length ≤ 9223372036854775807 := by unfold maxLen at hvl; omega
      have hct := containsN wr va vc l 0 hll hvi
      have HS := Lib.hid hS; have HVI := Lib.hid hvi
      cases hany : (l.any fun x => x == 0) with
      | true =>
        rw [hany] at hct
        have HC := Lib.hid hct
        have HR := Lib.hid (show sizeS D sides = (0, true) from by rw [HS.out]; unfold sizeP; rw [if_pos hany])
        clear hct hany hS hvi hvl
        go_wp2_with (go_at_call 122; refine HC.out.mono ?_; rintro e w2 ⟨rfl, rfl⟩)
        go_ret2
        exact ⟨ret_twoB HR.out, HB.out⟩
      | false =>
        rw [hany] at hct
        have HC := Lib.hid hct
        have HR : Hid (∀ o, prodO l 1 = o → sizeS D sides = prodE o) := Lib.hid fun o h => by rw [HS.out]; unfold sizeP; rw [if_neg (by rw [hany]; simp), h]
        have HP := Lib.hid (any_zero Hbd.out hany)
        clear hct hany hS hvi HS
        go_upto_region 13 with (go_at_call 122; refine HC.out.mono ?_; rintro e w2 ⟨rfl, rfl⟩)
        clear HC
        go_wp2
        go_loop [11, 45] (fun p i => ∃ (j : Nat) (m : Int), j ≤ l.length ∧ i = .int .i64 j ∧ p = .int .i64 m ∧ 0 ≤ m ∧ m ≤ 65536 ∧ prodO l 1 = prodO (l.drop j) m) (fun _ i => l.length - (intOf i).toNat)
        case atStart => exact ⟨0, 1, Nat.zero_le _, rfl, rfl, by omega, by omega, rfl⟩
        case round =>
          obtain ⟨j, m, hj, rfl, rfl, hm0, hm1, hp⟩ := hrel
          have Hp := Lib.hid hp
          clear hp
          by_cases hlt2 : j < l.length
          · obtain ⟨b, off, rfl, x0⟩ := HVI.out j hlt2
            have hz2 : (j : Int) < (l.length : Int) := by omega
            have hps := prod_step hlt2 m
            have hxb := HP.out l[j] (List.getElem_mem _)
            obtain ⟨x, hx⟩ : ∃ x, l[j] = x := ⟨_, rfl⟩
            rw [hx] at hps x0 hxb
            obtain ⟨q0, q1⟩ := mul_bd hm0 hm1 hxb.1 hxb.2
            have Hps := Lib.hid hps
            clear hps hx hxb
            by_cases big : 65536 < m * x
            · have HE := Lib.hid (HR.out none (by rw [Hp.out, Hps.out, if_pos big]))
              go_wp2_with fail
              go_ret2
              exact ⟨ret_twoB HE.out, HB.out⟩
            · have big' : decide (65536 < m * x) = false := by simpa using big
              have HE := Lib.hid (show prodO l 1 = prodO (l.drop (j + 1)) (m * x) from by rw [Hp.out, Hps.out, if_neg big])
              go_wp2_with fail
              go_round
              case rel => exact ⟨j + 1, m * x, by omega, by go_num, by go_num, by omega, by omega, HE.out⟩
              case measure => simp [intOf]; omega
          · have HE := Lib.hid (HR.out (some m) (by rw [Hp.out, List.drop_eq_nil_of_le (by omega)]; rfl))
            go_wp2_with fail
            go_ret2
            exact ⟨ret_twoB HE.out, HB.out⟩
end Go.Proofs.Ytmlfeocdcjhhaaa

namespace Go.Proofs.Ytmlfeocdcjhhaaa
set_option maxRecDepth 100000
open Go.RowKit
set_option linter.unusedVariables false
set_option linter.unusedSimpArgs false
attribute [local go_sem ↓] Go.wp_at_zero Go.wp_at_succ

def sumS (D : List Int) : List Buf → Int → Int × Int
  | [], all => (all, 0)
  | b :: r, all => if (sizeS D b.sides).2 = false ∨ 1048576 < all + (sizeS D b.sides).1 then (0, 102) else sumS D r (all + (sizeS D b.sides).1)
def dimsC (c : Cor) (D : List Int) : Bool := decide ((D.length : Int) = c.vars) && !D.any dimQ
def cellsS (c : Cor) (D : List Int) : Int × Int := if rightB c then (if dimsC c D then sumS D c.bufs 0 else (0, 101)) else (0, 100)
theorem sum_bad {D : List Int} {bufs : List Buf} {k : Nat} (hk : k < bufs.length) (all : Int) (h : (sizeS D bufs[k].sides).2 = false ∨ 1048576 < all + (sizeS D bufs[k].sides).1) : sumS D (bufs.drop k) all = (0, 102) := by
  rw [List.drop_eq_getElem_cons hk, sumS, if_pos h]
theorem sum_step {D : List Int} {bufs : List Buf} {k : Nat} (hk : k < bufs.length) (all : Int) (h : (sizeS D bufs[k].sides).2 = true) (h2 : ¬ 1048576 < all + (sizeS D bufs[k].sides).1) : sumS D (bufs.drop k) all = sumS D (bufs.drop (k + 1)) (all + (sizeS D bufs[k].sides).1) := by
  rw [List.drop_eq_getElem_cons hk, sumS, if_neg (by rw [h]; simp only [Bool.true_eq_false, false_or]; exact h2)]
theorem vals_bd {D : List Int} : ∀ (sides : List (List Mono)) (l l' : List Int), valsO D sides l = some l' → (∀ x ∈ l, 0 ≤ x ∧ x ≤ 65536) → ∀ x ∈ l', 0 ≤ x ∧ x ≤ 65536
  | [], l, l', h, hb => by cases h; exact hb
  | p :: r, l, l', h, hb => by
    rw [valsO] at h
    split at h
    · cases h
    · rename_i n hn
      refine vals_bd r _ l' h fun x hx => ?_
      rcases List.mem_append.1 hx with h1 | h1
      · exact hb x h1
      · cases List.mem_singleton.1 h1
        unfold sideO at hn
        split at hn
        · rename_i hc; cases hn; exact hc.2
        · cases hn
theorem prod_bd : ∀ (l : List Int) (a v : Int), prodO l a = some v → 0 ≤ a → a ≤ 65536 → (∀ x ∈ l, 0 ≤ x) → 0 ≤ v ∧ v ≤ 65536
  | [], a, v, h, h0, h1, _ => by cases h; exact ⟨h0, h1⟩
  | n :: r, a, v, h, h0, h1, hb => by
    rw [prodO] at h
    split at h
    · cases h
    · exact prod_bd r _ v h (Int.mul_nonneg h0 (hb n (List.mem_cons_self ..))) (by omega) (fun x hx => hb x (List.mem_cons_of_mem _ hx))
theorem size_bd (D : List Int) (sides : List (List Mono)) : 0 ≤ (sizeS D sides).1 ∧ (sizeS D sides).1 ≤ 65536 := by
  unfold sizeS
  cases h : valsO D sides [] with
  | none => simp
  | some l =>
    have hb := vals_bd sides [] l h (by simp)
    simp only [sizeP]
    split
    · simp
    · cases hp : prodO l 1 with
      | none => simp [prodE]
      | some v => exact prod_bd l 1 v hp (by omega) (by omega) (fun x hx => (hb x hx).1)
theorem bufs_grow {V : Nat} {bufs : List Buf} (h : bufsOk V bufs = true) {k : Nat} (hk : k < bufs.length) : bufs[k].sides.length ≤ 8 := by
  unfold bufsOk at h
  have := List.all_eq_true.1 h k (List.mem_range.2 hk)
  rw [List.getElem?_eq_getElem hk] at this
  simp only [bufOk, Bool.and_eq_true] at this
  have hg := this.1.1.1
  unfold growB at hg
  simp only [Bool.and_eq_true, decide_eq_true_eq] at hg
  omega
theorem right_bufs {c : Cor} (h : rightB c = true) : bufsOk c.vars.toNat c.bufs = true := by unfold rightB at h; simp only [Bool.and_eq_true] at h; exact h.2.1
theorem right_vars {c : Cor} (h : rightB c = true) : 0 ≤ c.vars ∧ c.vars ≤ 6 ∧ c.bufs.length ≤ 1024 ∧ c.steps.length ≤ 1024 ∧ c.outs.length ≤ 64 := by unfold rightB sizesB at h; simp only [Bool.and_eq_true, decide_eq_true_eq] at h; exact ⟨h.1.1.1.1.1, h.1.1.1.1.2, h.1.1.1.2, h.1.1.2, h.1.2⟩
/-- a core's elements, from their addresses on -/
structure CorEls (w : World) (c : Cor) (ba sa oa : Option Addr) : Prop where
  be : bufRep.Els w ba c.bufs
  bl : c.bufs.length ≤ 9223372036854775807
  se : stpRep.Els w sa c.steps
  sl : c.steps.length ≤ 9223372036854775807
  oe : (Rep.int .i64).Els w oa c.outs
  ol : c.outs.length ≤ 9223372036854775807
theorem CorEls.below {w w' : World} {c : Cor} {ba sa oa : Option Addr} (h : CorEls w c ba sa oa) (hb : Below w.heap.size w w') : CorEls w' c ba sa oa := ⟨h.be.below _ hb (Nat.le_refl _), h.bl, h.se.below _ hb (Nat.le_refl _), h.sl, h.oe.below _ hb (Nat.le_refl _), h.ol⟩
/-- a core as a value -/
def corV (c : Cor) (ba sa oa : Option Addr) (bc sc oc : Nat) : Value := .agg #[.int .i64 c.vars, .slice ba c.bufs.length bc, .slice sa c.steps.length sc, .slice oa c.outs.length oc]
theorem cright_at (w : World) (c : Cor) (ba sa oa : Option Addr) (bc sc oc : Nat) (h : CorEls w c ba sa oa) : Calls Try.prog 20 #[corV c ba sa oa bc sc oc] w fun e w' => e = .returned (.bool (rightB c)) ∧ Below w.heap.size w w' :=
  cright_any w c.vars c.bufs ba bc h.be h.bl c.steps sa sc h.se h.sl c.outs oa oc h.oe h.ol
set_option maxHeartbeats 16000000 in
theorem ccells_any (w : World) (c : Cor) (ba sa oa : Option Addr) (bc sc oc : Nat) (h : CorEls w c ba sa oa) (ad : Option Addr) (cd : Nat) (D : List Int) (hd : IntsAt .i64 w ad D) (hld : D.length ≤ 9223372036854775807) :
    Calls Try.prog 39 #[corV c ba sa oa bc sc oc, .slice ad D.length cd] w fun e w' => e = two (cellsS c D) ∧ Below w.heap.size w w' := by
  obtain ⟨vars, bufs, steps, outs⟩ := c
  unfold corV
  dsimp only
  have HE := Lib.hid h; have HD := Lib.hid hd
  have HN := Lib.hid (rgIn_new w vars (.slice ba bufs.length bc) (.slice sa steps.length sc) (.slice oa outs.length oc))
  clear h hd
  go_enter Try.func39, Try.ntmps39
  go_upto_region 1 with fail
  refine gen_worldA (fun W => RgIn w W w.heap.size vars (.slice ba bufs.length bc) (.slice sa steps.length sc) (.slice oa outs.length oc)) HN.out ?_
  clear HN
  intro W hin
  have HIN := Lib.hid hin
  obtain ⟨hbW, x0, x1, x2, x3, hxx⟩ := hin
  have hq := cright_at W ⟨vars, bufs, steps, outs⟩ ba sa oa bc sc oc (HE.out.below hbW)
  unfold corV at hq
  dsimp only at hq
  clear hbW
  cases hr : rightB ⟨vars, bufs, steps, outs⟩ with
  | false =>
    rw [hr] at hq
    have HQ := Lib.hid hq
    have HG := Lib.hid (show cellsS ⟨vars, bufs, steps, outs⟩ D = (0, 100) from by unfold cellsS; rw [hr]; rfl)
    clear hq hr
    go_wp2_with (go_at_call 20; refine HQ.out.mono ?_; rintro e w2 ⟨rfl, hb2⟩)
    go_ret2
    exact ⟨ret_two HG.out, bNext hb2 HIN.out.below⟩
  | true =>
  rw [hr] at hq
  have HQ := Lib.hid hq
  have hv := right_vars hr
  have hbk := right_bufs hr
  dsimp only at hv hbk
  have HBK := Lib.hid (fun (k : Nat) (hk : k < bufs.length) => bufs_grow hbk hk)
  have HG : Hid (∀ r, (if dimsC ⟨vars, bufs, steps, outs⟩ D then sumS D bufs 0 else (0, 101)) = r → cellsS ⟨vars, bufs, steps, outs⟩ D = r) := Lib.hid fun r h => by unfold cellsS; rw [hr]; exact h
  obtain ⟨V, rfl⟩ : ∃ V : Nat, vars = V := ⟨vars.toNat, by omega⟩
  have hbl : bufs.length ≤ 1024 := hv.2.2.1
  clear hq hr hv hbk
  go_upto_region 3 with (go_at_call 20; refine HQ.out.mono ?_; rintro e w2 ⟨rfl, hb2⟩)
  have HIN2 := Lib.hid (HIN.out.next hb2)
  clear x0 x1 x2 x3 hxx HIN HQ hb2
  obtain ⟨hbW, x0, x1, x2, x3, hxx⟩ := HIN2.out
  have hct := containsFuncN w2 ad cd D hld (HD.out.below hbW (Nat.le_refl _))
  clear hbW
  by_cases hl : D.length = V
  case neg =>
    have d1 : ((D.length : Int) != (V : Int)) = true := by simp; omega
    have d2 : (D.length != V) = true := by simpa using hl
    have d3 : (D.length == V) = false := by simpa using hl
    have HR := Lib.hid (HG.out (0, 101) (by unfold dimsC; rw [decide_eq_false (by dsimp only; omega)]; rfl))
    clear hl hct
    go_wp2_with fail
    go_ret2
    exact ⟨ret_two HR.out, HIN2.out.below⟩
  have d1 : ((D.length : Int) != (V : Int)) = false := by simp; omega
  have d2 : (D.length != V) = false := by simpa using hl
  have d3 : (D.length == V) = true := by simpa using hl
  cases hany : D.any dimQ with
  | true =>
    rw [hany] at hct
    have HC := Lib.hid hct
    have HR := Lib.hid (HG.out (0, 101) (by unfold dimsC; rw [hany, Bool.not_true, Bool.and_false]; rfl))
    clear hct hany hl
    go_wp2_with (go_at_call 68; refine HC.out.mono ?_; rintro e w3 ⟨rfl, rfl⟩)
    go_ret2
    exact ⟨ret_two HR.out, HIN2.out.below⟩
  | false =>
    rw [hany] at hct
    have HC := Lib.hid hct
    have HR : Hid (∀ r, sumS D bufs 0 = r → cellsS ⟨V, bufs, steps, outs⟩ D = r) := Lib.hid fun r h => HG.out r (by unfold dimsC; rw [hany, decide_eq_true (by dsimp only; omega)]; exact h)
    clear hct hany hl HG
    go_upto_region 6 with (go_at_call 68; refine HC.out.mono ?_; rintro e w3 ⟨rfl, rfl⟩)
    clear HC d1 d2 d3
    go_wp2_with fail
    go_loopw [6, 26] (fun s i wr => ∃ (k : Nat) (all : Int), k ≤ bufs.length ∧ i = .int .i64 k ∧ s = .int .i64 all ∧ 0 ≤ all ∧ all ≤ 1048576 ∧ sumS D bufs 0 = sumS D (bufs.drop k) all ∧ Below w.heap.size w wr) (fun _ i _ => bufs.length - (intOf i).toNat)
    case atStart => exact ⟨0, 0, Nat.zero_le _, rfl, rfl, by omega, by omega, rfl, HIN2.out.below⟩
    case round =>
      obtain ⟨k, all, hk, rfl, rfl, ha0, ha1, hs, hB⟩ := hrel
      have HS := Lib.hid hs; have HB := Lib.hid hB
      clear hs x0 x1 x2 x3 hxx
      have hz0 : (0 : Int) ≤ (k : Int) := by omega
      by_cases hlt : k < bufs.length
      · have hz1 : (k : Int) < (bufs.length : Int) := by omega
        obtain ⟨b, off, cs, rfl, ⟨v, rfl, hs, -⟩, hc⟩ := (HE.out.be.below bufRep hB (Nat.le_refl _)) k hlt
        have e0 := hc 0 _ rfl; have e1 := hc 1 _ rfl
        simp only [show bufRep.n = 2 from rfl, Nat.add_zero] at e0 e1
        obtain ⟨sa', sc', rfl, hsl', hse'⟩ := Rep.Sl.form hs
        have hnw := bufIn_new wr (.slice sa' bufs[k].sides.length sc') bufs[k].input
        have hqs := fun W3 (hb : Below wr.heap.size wr W3) => csize_any W3 sa' sc' bufs[k].sides (hse'.below polyRep hb (Nat.le_refl _)) (by have := HBK.out k hlt; omega) ad cd D (HD.out.below (bNext hb HB.out) (Nat.le_refl _)) hld
        have HBad : Hid ((sizeS D bufs[k].sides).2 = false ∨ 1048576 < all + (sizeS D bufs[k].sides).1 → cellsS ⟨V, bufs, steps, outs⟩ D = (0, 102)) := Lib.hid fun h => HR.out _ (by rw [HS.out, sum_bad hlt all h])
        have HGo : Hid ((sizeS D bufs[k].sides).2 = true → ¬ 1048576 < all + (sizeS D bufs[k].sides).1 → sumS D bufs 0 = sumS D (bufs.drop (k + 1)) (all + (sizeS D bufs[k].sides).1)) := Lib.hid fun h h2 => by rw [HS.out, sum_step hlt all h h2]
        have hsb := size_bd D bufs[k].sides
        obtain ⟨r, hr⟩ : ∃ r, sizeS D bufs[k].sides = r := ⟨_, rfl⟩
        simp only [hr] at hqs
        rw [hr] at HBad HGo hsb
        obtain ⟨n, ok⟩ := r
        unfold twoB at hqs
        dsimp only at hqs HBad HGo hsb
        obtain ⟨s0, s1⟩ := hsb
        obtain ⟨sn, hsn⟩ : ∃ sn, bufs[k].sides.length = sn := ⟨_, rfl⟩
        obtain ⟨inp, hinp⟩ : ∃ inp, bufs[k].input = inp := ⟨_, rfl⟩
        rw [hsn] at e0; rw [hinp] at e1; simp only [hsn, hinp] at hnw hqs
        have HQS := Lib.hid hqs; have HNW := Lib.hid hnw
        clear hqs hs hc hse' hr hsl' hnw hsn hinp hB
        go_upto_region 9 with fail
        refine gen_worldA (fun W3 => BufIn wr W3 wr.heap.size (.slice sa' sn sc') inp) HNW.out ?_
        clear HNW
        intro W3 hb3
        obtain ⟨hb3, d0, d1, hzz⟩ := hb3
        have HQ := Lib.hid (HQS.out W3 hb3)
        have HB3 := Lib.hid (bNext hb3 HB.out)
        clear hb3 HQS e0 e1
        cases ok with
        | false =>
          have HE2 := Lib.hid (HBad.out (.inl rfl))
          go_wp2_with (go_at_call 70; refine HQ.out.mono ?_; rintro e w4 ⟨rfl, hb4⟩)
          go_ret2
          exact ⟨ret_two HE2.out, bNext hb4 HB3.out⟩
        | true =>
        by_cases big : 1048576 < all + n
        · have HE2 := Lib.hid (HBad.out (.inr big))
          go_wp2_with (go_at_call 70; refine HQ.out.mono ?_; rintro e w4 ⟨rfl, hb4⟩)
          go_ret2
          exact ⟨ret_two HE2.out, bNext hb4 HB3.out⟩
        · have big' : decide (1048576 < all + n) = false := by simpa using big
          have HE2 := Lib.hid (HGo.out rfl big)
          go_wp2_with (go_at_call 70; refine HQ.out.mono ?_; rintro e w4 ⟨rfl, hb4⟩)
          go_roundw
          case rel => exact ⟨k + 1, all + n, by omega, by go_num, by go_num, by omega, by omega, HE2.out, bNext hb4 HB3.out⟩
          case measure => simp [intOf]; omega
      · have HE2 := Lib.hid (HR.out (all, 0) (by rw [HS.out, List.drop_eq_nil_of_le (by omega)]; rfl))
        go_wp2_with fail
        go_ret2
        exact ⟨ret_two HE2.out, HB.out⟩
end Go.Proofs.Ytmlfeocdcjhhaaa

namespace Go.Proofs.Ytmlfeocdcjhhaaa
set_option maxRecDepth 100000
open Go.RowKit
set_option linter.unusedVariables false
-- DROPS
set_option linter.unusedSimpArgs false
attribute [local go_sem ↓] Go.wp_at_zero Go.wp_at_succ

theorem src_lit (W : World) (cs : Array Value) (t : TypeId) (m : Nat) (news : List Value) (G : Nat) (hG : W.heap.size = G) (hn : news = cs.toList) : Src (W.alloc (.cells cs t)) (.slice (some ⟨G, 0, none⟩) m m) m news := by
  subst hG hn
  refine .inr ⟨_, _, rfl, fun j z hz => ?_⟩
  have e : (⟨W.heap.size, 0, none⟩ : Addr).add j = ⟨W.heap.size, j, none⟩ := by unfold Addr.add; split <;> simp_all
  rw [e, cell_of_row _ _ j _ _ _ (World.alloc_heap_new W _)]
  simpa using hz
end Go.Proofs.Ytmlfeocdcjhhaaa

namespace Go.Proofs.Ytmlfeocdcjhhaaa
set_option maxRecDepth 100000
open Go.RowKit Go.ChangeShapes Go.WideShapes
set_option linter.unusedVariables false
-- DROPS
set_option linter.unusedSimpArgs false

theorem int_at {w : World} {a : Option Addr} {n c : Nat} {xs : List Int} (h : (Rep.int .i64).Sl w (.slice a n c) xs) : n = xs.length ∧ IntsAt .i64 w a xs := by
  obtain ⟨a', cap, e, hle, _, h2, h4⟩ := h
  cases e
  refine ⟨rfl, fun i hi => ?_⟩
  obtain ⟨b, off, cs, e, ⟨rfl, _⟩, hc⟩ := h4 i hi
  refine ⟨b, off, e, ?_⟩
  simpa [Rep.int, Rep.flat] using hc 0 (.int .i64 xs[i]) rfl
theorem CorAt.els {w : World} {vb vs vo : Value} {c : Cor} (h : CorAt w vb vs vo c) : ∃ ba bc sa sc oa oc, vb = .slice ba c.bufs.length bc ∧ vs = .slice sa c.steps.length sc ∧ vo = .slice oa c.outs.length oc ∧ CorEls w c ba sa oa ∧ c.steps.length ≤ sc ∧ (ba = none → c.bufs.length = 0 ∧ bc = 0) := by
  obtain ⟨⟨ba, bc, rfl, b1, b2, b3, hb⟩, ⟨sa, sc, rfl, s1, s2, -, hs⟩, ⟨oa, oc, rfl, o1, o2, -, ho⟩, _⟩ := h
  unfold maxLen at b2 s2 o2
  exact ⟨ba, bc, sa, sc, oa, oc, rfl, rfl, rfl, ⟨hb, by omega, hs, by omega, ho, by omega⟩, s1, fun e => by have := b3 e; omega⟩
/-- a core in a box, as a block -/
structure CB (w W : World) (x : Nat) (vars : Int) (vb vs vo : Value) : Prop where
  below : Below w.heap.size w W
  blk : W.heap[x]? = some (.cells #[.int .i64 vars, vb, vs, vo] 33 (0, 0))
theorem CB.next {w W W' : World} {x : Nat} {vars : Int} {vb vs vo : Value} (h : CB w W x vars vb vs vo) (hb : Below W.heap.size W W') : CB w W' x vars vb vs vo := ⟨bNext hb h.below, block_below h.blk hb⟩
theorem CB.rg {w W : World} {x : Nat} {vars : Int} {vb vs vo : Value} (h : CB w W x vars vb vs vo) : RgIn w W x vars vb vs vo := by
  have g0 := blockCells (cs := [.int .i64 vars, vb, vs, vo]) h.blk
  exact ⟨h.below, g0 0, g0 1, g0 2, g0 3, (Array.getElem?_eq_some_iff.1 h.blk).1⟩
theorem CB.new {w W : World} (hb : Below w.heap.size w W) (vars : Int) (vb vs vo : Value) : CB w (W.alloc (.cells #[.int .i64 vars, vb, vs, vo] 33)) W.heap.size vars vb vs vo := ⟨hb.alloc hb.size _, World.alloc_heap_new W _⟩
theorem CB.other {w W : World} {x : Nat} {vars : Int} {vb vs vo : Value} (h : CB w W x vars vb vs vo) {p : Addr} (hp : w.heap.size ≤ p.block) (hx : p.block ≠ x) (u : Value) : CB w (W.setCell p u) x vars vb vs vo := ⟨h.below.setCell hp u, block_other h.blk hx u⟩
theorem CB.put1 {w W : World} {x : Nat} {vars : Int} {vb vs vo : Value} (h : CB w W x vars vb vs vo) (hx : w.heap.size ≤ x) (u : Value) : CB w (W.setCell ⟨x, 1, none⟩ u) x vars u vs vo := ⟨h.below.setCell hx u, by rw [heap_setCell_same W x _ _ _ _ h.blk]; rfl⟩
theorem CB.put2 {w W : World} {x : Nat} {vars : Int} {vb vs vo : Value} (h : CB w W x vars vb vs vo) (hx : w.heap.size ≤ x) (u : Value) : CB w (W.setCell ⟨x, 2, none⟩ u) x vars vb u vo := ⟨h.below.setCell hx u, by rw [heap_setCell_same W x _ _ _ _ h.blk]; rfl⟩
theorem CB.fr {w W : World} {x : Nat} {vars : Int} {vb vs vo : Value} (h : CB w W x vars vb vs vo) (j : Nat) : W.frozen? ⟨x, j, none⟩ = false := frozen_of_row _ x j _ _ h.blk
theorem Rep.Els.take {α : Type} {R : Rep α} {w : World} {a : Option Addr} {xs : List α} (h : R.Els w a xs) (k : Nat) : R.Els w a (xs.take k) := fun i hi => by
  simp at hi
  obtain ⟨b, off, cs, e, h1, h2⟩ := h i (by omega)
  exact ⟨b, off, cs, e, by rw [List.getElem_take]; exact h1, h2⟩
end Go.Proofs.Ytmlfeocdcjhhaaa

namespace Go.Proofs.Ytmlfeocdcjhhaaa
set_option maxRecDepth 100000
open Go.RowKit
set_option linter.unusedVariables false
set_option linter.unusedSimpArgs false

def stepO (s : Stp) : Stp := ⟨s.how, s.buf, s.pos, s.loops, s.fn, simpleC s.ops⟩
def coreC (c : Cor) : Cor := ⟨c.vars, c.bufs, c.steps.map stepO, c.outs⟩
def noneC : Cor := ⟨0, [], [], []⟩
def coreR (c : Cor) : Cor × Int := if rightB c then (coreC c, 0) else (noneC, 100)
theorem polyB_len {p : List Mono} (h : polyB p = true) : p.length ≤ 48 := by
  unfold polyB at h
  simp only [Bool.and_eq_true, decide_eq_true_eq] at h
  exact h.1
theorem both_len {V : Nat} {p : List Mono} (h : bothB V p = true) : p.length ≤ 48 := by
  unfold bothB ownB at h
  simp only [Bool.and_eq_true] at h
  exact polyB_len h.1.1
theorem grow_len {V : Nat} {l : List (List Mono)} (h : growB V l = true) : l.length ≤ 4 ∧ ∀ p ∈ l, p.length ≤ 48 := by
  unfold growB at h
  simp only [Bool.and_eq_true, decide_eq_true_eq, List.all_eq_true] at h
  exact ⟨h.1, fun p hp => both_len (h.2 p hp)⟩
theorem opB_p {V L : Nat} {made : List Bool} {o : Cop} (h : opB V L made o = true) : o.p.length ≤ 48 ∧ (o.how ≠ 2 → o.p = []) := by
  unfold opB at h
  by_cases h1 : o.how = 1
  · rw [if_pos h1] at h
    simp only [Bool.and_eq_true, decide_eq_true_eq] at h
    have hp : o.p = [] := List.eq_nil_of_length_eq_zero h.1.2
    exact ⟨by rw [hp]; simp, fun _ => hp⟩
  rw [if_neg h1] at h
  by_cases h2 : o.how = 2
  · rw [if_pos h2] at h
    unfold ownB at h
    simp only [Bool.and_eq_true] at h
    exact ⟨polyB_len h.2.1, fun e => absurd h2 e⟩
  rw [if_neg h2] at h
  by_cases h3 : o.how = 3
  · rw [if_pos h3] at h
    simp only [Bool.and_eq_true, decide_eq_true_eq] at h
    have hp : o.p = [] := List.eq_nil_of_length_eq_zero h.1.2
    exact ⟨by rw [hp]; simp, fun _ => hp⟩
  rw [if_neg h3] at h
  by_cases h4 : o.how = 4
  · rw [if_pos h4] at h
    simp only [Bool.and_eq_true, decide_eq_true_eq] at h
    have hp : o.p = [] := List.eq_nil_of_length_eq_zero h.1.2
    exact ⟨by rw [hp]; simp, fun _ => hp⟩
  rw [if_neg h4] at h
  by_cases h5 : o.how = 5
  · rw [if_pos h5] at h
    simp only [Bool.and_eq_true, decide_eq_true_eq] at h
    have hp : o.p = [] := List.eq_nil_of_length_eq_zero h.1.2
    exact ⟨by rw [hp]; simp, fun _ => hp⟩
  rw [if_neg h5] at h
  by_cases h6 : o.how = 6
  · rw [if_pos h6] at h
    simp only [Bool.and_eq_true, decide_eq_true_eq] at h
    have hp : o.p = [] := List.eq_nil_of_length_eq_zero h.1.2
    exact ⟨by rw [hp]; simp, fun _ => hp⟩
  rw [if_neg h6] at h
  cases h
/-- what a right step's parts are -/
structure FineS (s : Stp) : Prop where
  pos : s.pos.length ≤ 48
  loops : s.loops.length ≤ 4
  each : ∀ p ∈ s.loops, p.length ≤ 48
  ops : s.ops.length ≤ 256
  deep : 0 ≤ depthI s.ops
  p : ∀ o ∈ s.ops, o.p.length ≤ 48
  no : ∀ o ∈ s.ops, o.how ≠ 2 → o.p = []
theorem stepQ_fine {V : Nat} {made : List Bool} {s : Stp} (h : stepQ V made s = true) : FineS s := by
  unfold stepQ at h
  simp only [Bool.and_eq_true, decide_eq_true_eq, List.all_eq_true] at h
  obtain ⟨⟨⟨⟨⟨⟨⟨⟨h1, h2⟩, -⟩, -⟩, -⟩, -⟩, h3⟩, h4⟩, h5⟩ := h
  have h6 : ∀ o ∈ s.ops, opB V s.loops.length made o = true := fun o ho => by
    have := h5 o ho
    unfold opS at this
    simp only [Bool.and_eq_true] at this
    exact this.1
  exact ⟨both_len h1, (grow_len h2).1, (grow_len h2).2, h3, h4, fun o ho => (opB_p (h6 o ho)).1, fun o ho => (opB_p (h6 o ho)).2⟩
theorem stepsK_fine {V : Nat} {bufs : List Buf} : ∀ {l : List Stp} {made : List Bool}, stepsK V bufs l made = true → ∀ s ∈ l, FineS s
  | [], _, _, s, hs => by cases hs
  | x :: l, made, h, s, hs => by
    unfold stepsK at h
    simp only [Bool.and_eq_true] at h
    rcases List.mem_cons.1 hs with rfl | hs
    · have h1 := h.1
      unfold stepS at h1
      simp only [Bool.and_eq_true] at h1
      exact stepQ_fine h1.2
    · exact stepsK_fine h.2 s hs
theorem bufs_fine {V : Nat} {bufs : List Buf} (h : bufsOk V bufs = true) : ∀ b ∈ bufs, b.sides.length ≤ 4 ∧ ∀ p ∈ b.sides, p.length ≤ 48 := fun b hb => by
  obtain ⟨i, hi, rfl⟩ := List.getElem_of_mem hb
  unfold bufsOk at h
  have h1 := List.all_eq_true.1 h i (List.mem_range.2 hi)
  rw [List.getElem?_eq_getElem hi] at h1
  unfold bufOk at h1
  simp only [Bool.and_eq_true] at h1
  exact grow_len h1.1.1.1
/-- what a right core's parts are -/
structure FineC (c : Cor) : Prop where
  bl : c.bufs.length ≤ 1024
  sl : c.steps.length ≤ 1024
  ol : c.outs.length ≤ 64
  bufs : ∀ b ∈ c.bufs, b.sides.length ≤ 4 ∧ ∀ p ∈ b.sides, p.length ≤ 48
  steps : ∀ s ∈ c.steps, FineS s
theorem right_fine {c : Cor} (h : rightB c = true) : FineC c := by
  obtain ⟨-, -, h1, h2, h3⟩ := right_vars h
  refine ⟨h1, h2, h3, bufs_fine (right_bufs h), ?_⟩
  unfold rightB at h
  simp only [Bool.and_eq_true] at h
  exact stepsK_fine h.2.2.1
end Go.Proofs.Ytmlfeocdcjhhaaa

namespace Go.Proofs.Ytmlfeocdcjhhaaa
set_option maxRecDepth 100000
open Go.RowKit
set_option linter.unusedVariables false
set_option linter.unusedSimpArgs false

abbrev Ex (α : Type) := Except Int α
def valR (D : List Int) (p : List Mono) (e : Int) : Ex Int := if (evalS p D).2 = 0 then .ok (evalS p D).1 else .error e
def mustR (r : Int × Int) : Ex Int := if r.2 = 0 then .ok r.1 else .error r.2
def cellR (mem : List (List Int)) (b : Int) (k : Int) : Ex Int := if k < 0 ∨ ((mem.getD b.toNat []).length : Int) ≤ k then .error 121 else .ok ((mem.getD b.toNat []).getD k.toNat 0)
/-- an operation on a stack -/
def opM (D : List Int) (mem : List (List Int)) (ix : List Int) (o : Cop) (s : List Int) : Ex (List Int) :=
  if o.how = 1 then .ok (o.n :: s)
  else if o.how = 2 then (valR D o.p 121).map (· :: s)
  else if o.how = 3 then .ok (ix.getD o.k.toNat 0 :: s)
  else if o.how = 4 then match s with
    | k :: r => (cellR mem o.k k).map (· :: r)
    | [] => .ok []
  else if o.how = 5 then match s with
    | a :: r => (mustR (monadF o.fn a)).map (· :: r)
    | [] => .ok []
  else if o.how = 6 then match s with
    | b :: a :: r => (mustR (dyadF o.fn a b)).map (· :: r)
    | _ => .ok []
  else .ok s
def runM (D : List Int) (mem : List (List Int)) (ix : List Int) : List Cop → List Int → Ex (List Int)
  | [], s => .ok s
  | o :: l, s => (opM D mem ix o s).bind (runM D mem ix l)
def opsM (D : List Int) (mem : List (List Int)) (ix : List Int) (l : List Cop) : Ex Int := (runM D mem ix l []).map (·.headD 0)
theorem runM_append (D : List Int) (mem : List (List Int)) (ix : List Int) : ∀ (l m : List Cop) (s : List Int), runM D mem ix (l ++ m) s = (runM D mem ix l s).bind (runM D mem ix m)
  | [], m, s => rfl
  | o :: l, m, s => by
    rw [List.cons_append, runM, runM]
    cases opM D mem ix o s with
    | error e => rfl
    | ok s' => exact runM_append D mem ix l m s'
/-- a step's loops' numbers, and how many turns it has -/
def countR (D : List Int) (fold : Bool) : List (List Mono) → Int → Ex (List Int × Int)
  | [], n => .ok ([], n)
  | p :: r, n => (valR D p 122).bind fun k =>
    if 65536 < k then .error 122
    else (countR D fold r (min ((if (if fold && r.isEmpty then k + 1 else k) = 0 then 0 else n) * (if fold && r.isEmpty then k + 1 else k)) 4194304)).map fun q => (k :: q.1, q.2)
/-- the indexes below some numbers, in order -/
def idxs : List Int → List (List Int)
  | [] => [[]]
  | k :: r => ((List.range k.toNat).map fun (i : Nat) => (idxs r).map fun x => (i : Int) :: x).flatten
def putR (D : List Int) (s : Stp) (mem : List (List Int)) (n : Nat) (v : Int) : Ex (List (List Int)) :=
  (valR D s.pos 121).bind fun tt =>
    if ((mem.getD s.buf.toNat []).length : Int) ≤ tt ∨ ((mem.getD s.buf.toNat []).length : Int) - tt ≤ n then .error 121
    else .ok (mem.set s.buf.toNat ((mem.getD s.buf.toNat []).set (tt + n).toNat v))
/-- what a fold comes to: k turns -/
def foldR (D : List Int) (mem : List (List Int)) (ix : List Int) (s : Stp) : Nat → Ex Int
  | 0 => .ok (unitF s.fn).1
  | k + 1 => (foldR D mem ix s k).bind fun v => (opsM D mem (ix ++ [(k : Int)]) s.ops).bind fun x => if k = 0 then .ok x else mustR (dyadF s.fn v x)
/-- one index: memory, how many were put, the last number -/
def turnR (D : List Int) (s : Stp) (last1 : Int) (st : List (List Int) × Nat × Int) (ix : List Int) : Ex (List (List Int) × Nat × Int) :=
  if s.how = 2 then (foldR D st.1 ix s last1.toNat).bind fun v => (putR D s st.1 st.2.1 v).map fun m => (m, st.2.1 + 1, st.2.2)
  else (opsM D st.1 ix s.ops).bind fun v =>
    (if s.how = 3 ∧ 0 < ix.getLastD 0 then mustR (dyadF s.fn st.2.2 v) else .ok v).bind fun v => (putR D s st.1 st.2.1 v).map fun m => (m, st.2.1 + 1, v)
def turnsR (D : List Int) (s : Stp) (last1 : Int) : List (List Int) → List (List Int) × Nat × Int → Ex (List (List Int) × Nat × Int)
  | [], st => .ok st
  | ix :: r, st => (turnR D s last1 st ix).bind (turnsR D s last1 r)
/-- a step: memory and turns -/
def stepR (D : List Int) (s : Stp) (st : List (List Int) × Int) : Ex (List (List Int) × Int) :=
  (countR D (s.how == 2) s.loops (s.ops.length : Int)).bind fun q =>
    if 2097152 < st.2 + q.2 then .error 122
    else (turnsR D s (q.1.getLastD 0) (idxs (if s.how = 2 then q.1.dropLast else q.1)) (st.1, 0, 0)).map fun r => (r.1, st.2 + q.2)
/-- steps from number i on: which was refused -/
def stepsR (D : List Int) : List Stp → Int → List (List Int) × Int → (List (List Int) × Int) ⊕ (Int × Int)
  | [], _, st => .inl st
  | s :: r, i, st => match stepR D s st with
    | .error e => .inr (i, e)
    | .ok st' => stepsR D r (i + 1) st'
abbrev Ary := List Int × List Int
def mostR (bufs : List Buf) : Int := bufs.foldl (fun m b => max m (b.input + 1)) 0
def sidesR (D : List Int) (b : Buf) : List Int := b.sides.map fun p => (evalS p D).1
def loadR (D : List Int) (ins : List Ary) : List Buf → List (List Int) → Ex (List (List Int))
  | [], mem => .ok mem
  | b :: r, mem =>
    if b.input < 0 then loadR D ins r (mem ++ [List.replicate (sizeS D b.sides).1.toNat 0])
    else if (ins.getD b.input.toNat ([], [])).1 = sidesR D b ∧ ((ins.getD b.input.toNat ([], [])).2.length : Int) = (sizeS D b.sides).1 then loadR D ins r (mem ++ [(ins.getD b.input.toNat ([], [])).2])
    else .error 120
def outsR (D : List Int) (c : Cor) (mem : List (List Int)) : List Ary := c.outs.map fun k => (sidesR D (c.bufs.getD k.toNat ⟨[], -1⟩), mem.getD k.toNat [])
/-- a run: what comes out, the step that is refused, the error -/
def runR (c : Cor) (D : List Int) (ins : List Ary) : List Ary × Int × Int :=
  if (cellsS c D).2 ≠ 0 then ([], 0, (cellsS c D).2)
  else if (ins.length : Int) ≠ mostR c.bufs then ([], 0, 120)
  else match loadR D ins c.bufs [] with
    | .error e => ([], 0, e)
    | .ok mem => match stepsR D c.steps 0 (mem, 0) with
      | .inr (i, e) => ([], i, e)
      | .inl st => (outsR D c st.1, 0, 0)
end Go.Proofs.Ytmlfeocdcjhhaaa
