import Derived.Test.YtabodlhlanolcaaPB13
import Derived.Test.YtabodlhlanolcaaPB7
import Derived.Test.YtabodlhlanolcaaPB3
namespace Go.Proofs.Ytabodlhlanolcaa
set_option maxRecDepth 100000
open Go.RowKit
set_option linter.unusedVariables false
set_option linter.unusedSimpArgs false
attribute [local go_sem ↓] Go.wp_at_zero Go.wp_at_succ

theorem any_zero {l : List Int} (hb : ∀ x ∈ l, 0 ≤ x ∧ x ≤ 65536) (h : (l.any fun x => x == 0) = false) : ∀ x ∈ l, 1 ≤ x ∧ x ≤ 65536 := fun x hx => by
  have := List.any_eq_false.1 h x hx
  have h2 := hb x hx
  simp at this
  omega
theorem mul_bd {a n : Int} (h0 : 0 ≤ a) (h1 : a ≤ 65536) (h2 : 1 ≤ n) (h3 : n ≤ 65536) : 0 ≤ a * n ∧ a * n ≤ 4294967296 :=
  ⟨Int.mul_nonneg h0 (by omega), by have := Int.mul_le_mul h1 h3 (by omega) (by omega); omega⟩
set_option maxHeartbeats 16000000 in
theorem csize_any (w : World) (a : Option Addr) (c : Nat) (sides : List (List Mono)) (hse : polyRep.Els w a sides) (hsl : sides.length ≤ 1048576) (ad : Option Addr) (cd : Nat) (D : List Int) (hd : IntsAt .i64 w ad D) (hld : D.length ≤ 9223372036854775807) :
    Calls Try.prog 30 #[.slice a sides.length c, .slice ad D.length cd] w fun e w' => e = twoB (sizeS D sides) ∧ Below w.heap.size w w' := by
  obtain ⟨i0, hi, hz0, hz1, hz2⟩ := info_parts Try.info2
  have Hi := Lib.hid hi; have Hz0 := Lib.hid hz0; have Hz1 := Lib.hid hz1; have Hz2 := Lib.hid hz2; clear hi hz0 hz1 hz2
  have HSE := Lib.hid hse; have HD := Lib.hid hd
  clear hse hd
  go_enter Try.func30, Try.ntmps30
  go_wp2
  go_loopw [6, 16] (fun v i wr => ∃ (k : Nat) (l : List Int), k ≤ sides.length ∧ i = .int .i64 k ∧ l.length = k ∧ valsO D sides [] = valsO D (sides.drop k) l ∧ RowI w.heap.size wr v l ∧ (∀ x ∈ l, 0 ≤ x ∧ x ≤ 65536) ∧ Below w.heap.size w wr) (fun _ i _ => sides.length - (intOf i).toNat)
  case atStart => exact ⟨0, [], Nat.zero_le _, rfl, rfl, rfl, RowI.nil _ _, by simp, Below.refl _ _⟩
  case round =>
    obtain ⟨k, l, hk, rfl, hl, hv, hrow, hbd, hB⟩ := hrel
    have Hl := Lib.hid hl; have Hv := Lib.hid hv; have Hrow := Lib.hid hrow; have Hbd := Lib.hid hbd; have HB := Lib.hid hB
    clear hl hv hrow hbd
    have hz0 : (0 : Int) ≤ (k : Int) := by omega
    by_cases hlt : k < sides.length
    · have hz1 : (k : Int) < (sides.length : Int) := by omega
      obtain ⟨b, off, cs, rfl, ⟨v, rfl, hs⟩, hc⟩ := (HSE.out.below polyRep hB (Nat.le_refl _)) k hlt
      have e0 := hc 0 _ rfl
      simp only [show polyRep.n = 1 from rfl, Nat.add_zero, Nat.mul_one] at e0
      obtain ⟨pa, pc, rfl, hpl, hpe⟩ := Rep.Sl.form hs
      have hq := eval_any wr pa pc sides[k] ad cd D hpe hpl (HD.out.below hB (Nat.le_refl _)) hld
      obtain ⟨p, hp⟩ : ∃ p, sides[k] = p := ⟨_, rfl⟩
      rw [hp] at hq e0
      have HN : Hid (sideO D p = none → sizeS D sides = (0, false)) := Lib.hid fun h => by unfold sizeS; rw [Hv.out, vals_none hlt _ (by rw [hp]; exact h)]
      have HG : Hid (∀ n, sideO D p = some n → valsO D sides [] = valsO D (sides.drop (k + 1)) (l ++ [n])) := Lib.hid fun n h => by rw [Hv.out, vals_step hlt _ (by rw [hp]; exact h)]
      have HSB : Hid ((evalS p D).2 ≠ 0 ∨ (evalS p D).1 < 0 ∨ 65536 < (evalS p D).1 → sideO D p = none) := Lib.hid side_bad
      have HSG : Hid ((evalS p D).2 = 0 → 0 ≤ (evalS p D).1 → (evalS p D).1 ≤ 65536 → sideO D p = some (evalS p D).1) := Lib.hid side_good
      obtain ⟨r, hr⟩ : ∃ r, evalS p D = r := ⟨_, rfl⟩
      rw [hr] at hq HSB HSG
      obtain ⟨x, e⟩ := r
      unfold two at hq
      dsimp only at hq HSB HSG
      have HQ := Lib.hid hq
      clear hq hs hc hpe hp hr hB
      by_cases c0 : e = 0
      case neg =>
        have c0' : (e != 0) = true := by simp [c0]
        have HR := Lib.hid (HN.out (HSB.out (.inl c0)))
        clear c0
        go_wp2_with (go_at_call 51; refine HQ.out.mono ?_; rintro e w2 ⟨rfl, hb2⟩)
        go_ret2
        exact ⟨ret_twoB HR.out, bNext hb2 HB.out⟩
      subst c0
      by_cases c1 : x < 0
      · have HR := Lib.hid (HN.out (HSB.out (.inr (.inl c1))))
        go_wp2_with (go_at_call 51; refine HQ.out.mono ?_; rintro e w2 ⟨rfl, hb2⟩)
        go_ret2
        exact ⟨ret_twoB HR.out, bNext hb2 HB.out⟩
      have c1' : decide (x < 0) = false := by simpa using c1
      by_cases c2 : 65536 < x
      · have HR := Lib.hid (HN.out (HSB.out (.inr (.inr c2))))
        go_wp2_with (go_at_call 51; refine HQ.out.mono ?_; rintro e w2 ⟨rfl, hb2⟩)
        go_ret2
        exact ⟨ret_twoB HR.out, bNext hb2 HB.out⟩
      have c2' : decide (65536 < x) = false := by simpa using c2
      have HR := Lib.hid (HG.out x (HSG.out rfl (by omega) (by omega)))
      go_upto_region 8 with (go_at_call 51; refine HQ.out.mono ?_; rintro e w2 ⟨rfl, hb2⟩)
      have Hrow2 := Lib.hid (Hrow.out.below hb2)
      have HB2 := Lib.hid (bNext hb2 HB.out)
      clear hb2 HQ e0
      go_wp2_with (at_builtin; (refine wpList_append_own _ rfl _ _ 29 rfl w.heap.size 2 i0 (.int .i64 0) 1 8 Try.underlying29 Hi.out Hz0.out Hz1.out Hz2.out rfl (by decide) _ l.length (l.map (Value.int .i64)) rfl (World.ownsRow.alloc Hrow2.out _) ⟨w2.heap.size, 0, none⟩ 1 1 [.int .i64 x] rfl rfl (cell_one_new _ _ _) (oneCell_ints .i64 [x]) (by have := Hl.out; unfold maxLen; omega) (by have := Hl.out; omega) (by have := HB2.out.size; simp; omega) ?_))
      intro v' w5 hown hgrow _
      have hrow5 : RowI w.heap.size w5 v' (l ++ [x]) := by
        unfold RowI; rw [List.length_append, List.map_append]; exact hown
      have Hrow5 := Lib.hid hrow5; have HGR := Lib.hid hgrow
      clear hown hgrow hrow5
      go_wp2_with fail
      go_roundw
      case rel => exact ⟨k + 1, l ++ [x], by omega, by go_num, by rw [List.length_append, Hl.out]; rfl, HR.out, Hrow5.out, (fun y hy => by
        rcases List.mem_append.1 hy with h | h
        · exact Hbd.out y h
        · cases List.mem_singleton.1 h; omega), (HB2.out.alloc HB2.out.size _).grown HGR.out (by have := HB2.out.size; simp; omega) (fun j hj => (World.ownsRow.lt Hrow2.out j hj).1)⟩
      case measure => simp [intOf]; omega
    · have ek : k = sides.length := by omega
      subst ek
      have hS : sizeS D sides = sizeP l := by unfold sizeS; rw [Hv.out, List.drop_length]; rfl
      obtain ⟨va, vc, rfl, hvl, hvi⟩ := Hrow.out.slice
      have hll : l.length ≤ 9223372036854775807 := by unfold maxLen at hvl; omega
      have hct := containsN wr va vc l 0 hll hvi
      have HS := Lib.hid hS; have HVI := Lib.hid hvi
      cases hany : (l.any fun x => x == 0) with
      | true =>
        rw [hany] at hct
        have HC := Lib.hid hct
        have HR := Lib.hid (show sizeS D sides = (0, true) from by rw [HS.out]; unfold sizeP; rw [if_pos hany])
        clear hct hany hS hvi hvl
        go_wp2_with (go_at_call 52; refine HC.out.mono ?_; rintro e w2 ⟨rfl, rfl⟩)
        go_ret2
        exact ⟨ret_twoB HR.out, HB.out⟩
      | false =>
        rw [hany] at hct
        have HC := Lib.hid hct
        have HR : Hid (∀ o, prodO l 1 = o → sizeS D sides = prodE o) := Lib.hid fun o h => by rw [HS.out]; unfold sizeP; rw [if_neg (by rw [hany]; simp), h]
        have HP := Lib.hid (any_zero Hbd.out hany)
        clear hct hany hS hvi HS
        go_upto_region 13 with (go_at_call 52; refine HC.out.mono ?_; rintro e w2 ⟨rfl, rfl⟩)
        clear HC
        go_wp2
        go_loop [11, 45] (fun p i => ∃ (j : Nat) (m : Int), j ≤ l.length ∧ i = .int .i64 j ∧ p = .int .i64 m ∧ 0 ≤ m ∧ m ≤ 65536 ∧ prodO l 1 = prodO (l.drop j) m) (fun _ i => l.length - (intOf i).toNat)
        case atStart => exact ⟨0, 1, Nat.zero_le _, rfl, rfl, by omega, by omega, rfl⟩
        case round =>
          obtain ⟨j, m, hj, rfl, rfl, hm0, hm1, hp⟩ := hrel
          have Hp := Lib.hid hp
          clear hp
          by_cases hlt2 : j < l.length
          · obtain ⟨b, off, rfl, x0⟩ := HVI.out j hlt2
            have hz2 : (j : Int) < (l.length : Int) := by omega
            have hps := prod_step hlt2 m
            have hxb := HP.out l[j] (List.getElem_mem _)
            obtain ⟨x, hx⟩ : ∃ x, l[j] = x := ⟨_, rfl⟩
            rw [hx] at hps x0 hxb
            obtain ⟨q0, q1⟩ := mul_bd hm0 hm1 hxb.1 hxb.2
            have Hps := Lib.hid hps
            clear hps hx hxb
            by_cases big : 65536 < m * x
            · have HE := Lib.hid (HR.out none (by rw [Hp.out, Hps.out, if_pos big]))
              go_wp2_with fail
              go_ret2
              exact ⟨ret_twoB HE.out, HB.out⟩
            · have big' : decide (65536 < m * x) = false := by simpa using big
              have HE := Lib.hid (show prodO l 1 = prodO (l.drop (j + 1)) (m * x) from by rw [Hp.out, Hps.out, if_neg big])
              go_wp2_with fail
              go_round
              case rel => exact ⟨j + 1, m * x, by omega, by go_num, by go_num, by omega, by omega, HE.out⟩
              case measure => simp [intOf]; omega
          · have HE := Lib.hid (HR.out (some m) (by rw [Hp.out, List.drop_eq_nil_of_le (by omega)]; rfl))
            go_wp2_with fail
            go_ret2
            exact ⟨ret_twoB HE.out, HB.out⟩
end Go.Proofs.Ytabodlhlanolcaa

namespace Go.Proofs.Ytabodlhlanolcaa
set_option maxRecDepth 100000
open Go.RowKit
set_option linter.unusedVariables false
set_option linter.unusedSimpArgs false
attribute [local go_sem ↓] Go.wp_at_zero Go.wp_at_succ

def sumS (D : List Int) : List Buf → Int → Int × Int
  | [], all => (all, 0)
  | b :: r, all => if (sizeS D b.sides).2 = false ∨ 1048576 < all + (sizeS D b.sides).1 then (0, 102) else sumS D r (all + (sizeS D b.sides).1)
def dimsC (c : Cor) (D : List Int) : Bool := decide ((D.length : Int) = c.vars) && !D.any dimQ
def cellsS (c : Cor) (D : List Int) : Int × Int := if rightB c then (if dimsC c D then sumS D c.bufs 0 else (0, 101)) else (0, 100)
theorem sum_bad {D : List Int} {bufs : List Buf} {k : Nat} (hk : k < bufs.length) (all : Int) (h : (sizeS D bufs[k].sides).2 = false ∨ 1048576 < all + (sizeS D bufs[k].sides).1) : sumS D (bufs.drop k) all = (0, 102) := by
  rw [List.drop_eq_getElem_cons hk, sumS, if_pos h]
theorem sum_step {D : List Int} {bufs : List Buf} {k : Nat} (hk : k < bufs.length) (all : Int) (h : (sizeS D bufs[k].sides).2 = true) (h2 : ¬ 1048576 < all + (sizeS D bufs[k].sides).1) : sumS D (bufs.drop k) all = sumS D (bufs.drop (k + 1)) (all + (sizeS D bufs[k].sides).1) := by
  rw [List.drop_eq_getElem_cons hk, sumS, if_neg (by rw [h]; simp only [Bool.true_eq_false, false_or]; exact h2)]
theorem vals_bd {D : List Int} : ∀ (sides : List (List Mono)) (l l' : List Int), valsO D sides l = some l' → (∀ x ∈ l, 0 ≤ x ∧ x ≤ 65536) → ∀ x ∈ l', 0 ≤ x ∧ x ≤ 65536
  | [], l, l', h, hb => by cases h; exact hb
  | p :: r, l, l', h, hb => by
    rw [valsO] at h
    split at h
    · cases h
    · rename_i n hn
      refine vals_bd r _ l' h fun x hx => ?_
      rcases List.mem_append.1 hx with h1 | h1
      · exact hb x h1
      · cases List.mem_singleton.1 h1
        unfold sideO at hn
        split at hn
        · rename_i hc; cases hn; exact hc.2
        · cases hn
theorem prod_bd : ∀ (l : List Int) (a v : Int), prodO l a = some v → 0 ≤ a → a ≤ 65536 → (∀ x ∈ l, 0 ≤ x) → 0 ≤ v ∧ v ≤ 65536
  | [], a, v, h, h0, h1, _ => by cases h; exact ⟨h0, h1⟩
  | n :: r, a, v, h, h0, h1, hb => by
    rw [prodO] at h
    split at h
    · cases h
    · exact prod_bd r _ v h (Int.mul_nonneg h0 (hb n (List.mem_cons_self ..))) (by omega) (fun x hx => hb x (List.mem_cons_of_mem _ hx))
theorem size_bd (D : List Int) (sides : List (List Mono)) : 0 ≤ (sizeS D sides).1 ∧ (sizeS D sides).1 ≤ 65536 := by
  unfold sizeS
  cases h : valsO D sides [] with
  | none => simp
  | some l =>
    have hb := vals_bd sides [] l h (by simp)
    simp only [sizeP]
    split
    · simp
    · cases hp : prodO l 1 with
      | none => simp [prodE]
      | some v => exact prod_bd l 1 v hp (by omega) (by omega) (fun x hx => (hb x hx).1)
theorem bufs_grow {V : Nat} {bufs : List Buf} (h : bufsOk V bufs = true) {k : Nat} (hk : k < bufs.length) : bufs[k].sides.length ≤ 8 := by
  unfold bufsOk at h
  have := List.all_eq_true.1 h k (List.mem_range.2 hk)
  rw [List.getElem?_eq_getElem hk] at this
  simp only [bufOk, Bool.and_eq_true] at this
  have hg := this.1.1.1
  unfold growB at hg
  simp only [Bool.and_eq_true, decide_eq_true_eq] at hg
  omega
theorem right_bufs {c : Cor} (h : rightB c = true) : bufsOk c.vars.toNat c.bufs = true := by unfold rightB at h; simp only [Bool.and_eq_true] at h; exact h.2.1
theorem right_vars {c : Cor} (h : rightB c = true) : 0 ≤ c.vars ∧ c.vars ≤ 6 ∧ c.bufs.length ≤ 1024 ∧ c.steps.length ≤ 1024 ∧ c.outs.length ≤ 64 := by unfold rightB sizesB at h; simp only [Bool.and_eq_true, decide_eq_true_eq] at h; exact ⟨h.1.1.1.1.1, h.1.1.1.1.2, h.1.1.1.2, h.1.1.2, h.1.2⟩
/-- a core's elements, from their addresses on -/
structure CorEls (w : World) (c : Cor) (ba sa oa : Option Addr) : Prop where
  be : bufRep.Els w ba c.bufs
  bl : c.bufs.length ≤ 9223372036854775807
  se : stpRep.Els w sa c.steps
  sl : c.steps.length ≤ 9223372036854775807
  oe : (Rep.int .i64).Els w oa c.outs
  ol : c.outs.length ≤ 9223372036854775807
theorem CorEls.below {w w' : World} {c : Cor} {ba sa oa : Option Addr} (h : CorEls w c ba sa oa) (hb : Below w.heap.size w w') : CorEls w' c ba sa oa := ⟨h.be.below _ hb (Nat.le_refl _), h.bl, h.se.below _ hb (Nat.le_refl _), h.sl, h.oe.below _ hb (Nat.le_refl _), h.ol⟩
/-- a core as a value -/
def corV (c : Cor) (ba sa oa : Option Addr) (bc sc oc : Nat) : Value := .agg #[.int .i64 c.vars, .slice ba c.bufs.length bc, .slice sa c.steps.length sc, .slice oa c.outs.length oc]
theorem cright_at (w : World) (c : Cor) (ba sa oa : Option Addr) (bc sc oc : Nat) (h : CorEls w c ba sa oa) : Calls Try.prog 10 #[corV c ba sa oa bc sc oc] w fun e w' => e = .returned (.bool (rightB c)) ∧ Below w.heap.size w w' :=
  cright_any w c.vars c.bufs ba bc h.be h.bl c.steps sa sc h.se h.sl c.outs oa oc h.oe h.ol
set_option maxHeartbeats 16000000 in
theorem ccells_any (w : World) (c : Cor) (ba sa oa : Option Addr) (bc sc oc : Nat) (h : CorEls w c ba sa oa) (ad : Option Addr) (cd : Nat) (D : List Int) (hd : IntsAt .i64 w ad D) (hld : D.length ≤ 9223372036854775807) :
    Calls Try.prog 12 #[corV c ba sa oa bc sc oc, .slice ad D.length cd] w fun e w' => e = two (cellsS c D) ∧ Below w.heap.size w w' := by
  obtain ⟨vars, bufs, steps, outs⟩ := c
  unfold corV
  dsimp only
  have HE := Lib.hid h; have HD := Lib.hid hd
  have HN := Lib.hid (rgIn_new w vars (.slice ba bufs.length bc) (.slice sa steps.length sc) (.slice oa outs.length oc))
  clear h hd
  go_enter Try.func12, Try.ntmps12
  go_upto_region 1 with fail
  refine gen_worldA (fun W => RgIn w W w.heap.size vars (.slice ba bufs.length bc) (.slice sa steps.length sc) (.slice oa outs.length oc)) HN.out ?_
  clear HN
  intro W hin
  have HIN := Lib.hid hin
  obtain ⟨hbW, x0, x1, x2, x3, hxx⟩ := hin
  have hq := cright_at W ⟨vars, bufs, steps, outs⟩ ba sa oa bc sc oc (HE.out.below hbW)
  unfold corV at hq
  dsimp only at hq
  clear hbW
  cases hr : rightB ⟨vars, bufs, steps, outs⟩ with
  | false =>
    rw [hr] at hq
    have HQ := Lib.hid hq
    have HG := Lib.hid (show cellsS ⟨vars, bufs, steps, outs⟩ D = (0, 100) from by unfold cellsS; rw [hr]; rfl)
    clear hq hr
    go_wp2_with (go_at_call 10; refine HQ.out.mono ?_; rintro e w2 ⟨rfl, hb2⟩)
    go_ret2
    exact ⟨ret_two HG.out, bNext hb2 HIN.out.below⟩
  | true =>
  rw [hr] at hq
  have HQ := Lib.hid hq
  have hv := right_vars hr
  have hbk := right_bufs hr
  dsimp only at hv hbk
  have HBK := Lib.hid (fun (k : Nat) (hk : k < bufs.length) => bufs_grow hbk hk)
  have HG : Hid (∀ r, (if dimsC ⟨vars, bufs, steps, outs⟩ D then sumS D bufs 0 else (0, 101)) = r → cellsS ⟨vars, bufs, steps, outs⟩ D = r) := Lib.hid fun r h => by unfold cellsS; rw [hr]; exact h
  obtain ⟨V, rfl⟩ : ∃ V : Nat, vars = V := ⟨vars.toNat, by omega⟩
  have hbl : bufs.length ≤ 1024 := hv.2.2.1
  clear hq hr hv hbk
  go_upto_region 3 with (go_at_call 10; refine HQ.out.mono ?_; rintro e w2 ⟨rfl, hb2⟩)
  have HIN2 := Lib.hid (HIN.out.next hb2)
  clear x0 x1 x2 x3 hxx HIN HQ hb2
  obtain ⟨hbW, x0, x1, x2, x3, hxx⟩ := HIN2.out
  have hct := containsFuncN w2 ad cd D hld (HD.out.below hbW (Nat.le_refl _))
  clear hbW
  by_cases hl : D.length = V
  case neg =>
    have d1 : ((D.length : Int) != (V : Int)) = true := by simp; omega
    have d2 : (D.length != V) = true := by simpa using hl
    have d3 : (D.length == V) = false := by simpa using hl
    have HR := Lib.hid (HG.out (0, 101) (by unfold dimsC; rw [decide_eq_false (by dsimp only; omega)]; rfl))
    clear hl hct
    go_wp2_with fail
    go_ret2
    exact ⟨ret_two HR.out, HIN2.out.below⟩
  have d1 : ((D.length : Int) != (V : Int)) = false := by simp; omega
  have d2 : (D.length != V) = false := by simpa using hl
  have d3 : (D.length == V) = true := by simpa using hl
  cases hany : D.any dimQ with
  | true =>
    rw [hany] at hct
    have HC := Lib.hid hct
    have HR := Lib.hid (HG.out (0, 101) (by unfold dimsC; rw [hany, Bool.not_true, Bool.and_false]; rfl))
    clear hct hany hl
    go_wp2_with (go_at_call 28; refine HC.out.mono ?_; rintro e w3 ⟨rfl, rfl⟩)
    go_ret2
    exact ⟨ret_two HR.out, HIN2.out.below⟩
  | false =>
    rw [hany] at hct
    have HC := Lib.hid hct
    have HR : Hid (∀ r, sumS D bufs 0 = r → cellsS ⟨V, bufs, steps, outs⟩ D = r) := Lib.hid fun r h => HG.out r (by unfold dimsC; rw [hany, decide_eq_true (by dsimp only; omega)]; exact h)
    clear hct hany hl HG
    go_upto_region 6 with (go_at_call 28; refine HC.out.mono ?_; rintro e w3 ⟨rfl, rfl⟩)
    clear HC d1 d2 d3
    go_wp2_with fail
    go_loopw [6, 26] (fun s i wr => ∃ (k : Nat) (all : Int), k ≤ bufs.length ∧ i = .int .i64 k ∧ s = .int .i64 all ∧ 0 ≤ all ∧ all ≤ 1048576 ∧ sumS D bufs 0 = sumS D (bufs.drop k) all ∧ Below w.heap.size w wr) (fun _ i _ => bufs.length - (intOf i).toNat)
    case atStart => exact ⟨0, 0, Nat.zero_le _, rfl, rfl, by omega, by omega, rfl, HIN2.out.below⟩
    case round =>
      obtain ⟨k, all, hk, rfl, rfl, ha0, ha1, hs, hB⟩ := hrel
      have HS := Lib.hid hs; have HB := Lib.hid hB
      clear hs x0 x1 x2 x3 hxx
      have hz0 : (0 : Int) ≤ (k : Int) := by omega
      by_cases hlt : k < bufs.length
      · have hz1 : (k : Int) < (bufs.length : Int) := by omega
        obtain ⟨b, off, cs, rfl, ⟨v, rfl, hs, -⟩, hc⟩ := (HE.out.be.below bufRep hB (Nat.le_refl _)) k hlt
        have e0 := hc 0 _ rfl; have e1 := hc 1 _ rfl
        simp only [show bufRep.n = 2 from rfl, Nat.add_zero] at e0 e1
        obtain ⟨sa', sc', rfl, hsl', hse'⟩ := Rep.Sl.form hs
        have hnw := bufIn_new wr (.slice sa' bufs[k].sides.length sc') bufs[k].input
        have hqs := fun W3 (hb : Below wr.heap.size wr W3) => csize_any W3 sa' sc' bufs[k].sides (hse'.below polyRep hb (Nat.le_refl _)) (by have := HBK.out k hlt; omega) ad cd D (HD.out.below (bNext hb HB.out) (Nat.le_refl _)) hld
        have HBad : Hid ((sizeS D bufs[k].sides).2 = false ∨ 1048576 < all + (sizeS D bufs[k].sides).1 → cellsS ⟨V, bufs, steps, outs⟩ D = (0, 102)) := Lib.hid fun h => HR.out _ (by rw [HS.out, sum_bad hlt all h])
        have HGo : Hid ((sizeS D bufs[k].sides).2 = true → ¬ 1048576 < all + (sizeS D bufs[k].sides).1 → sumS D bufs 0 = sumS D (bufs.drop (k + 1)) (all + (sizeS D bufs[k].sides).1)) := Lib.hid fun h h2 => by rw [HS.out, sum_step hlt all h h2]
        have hsb := size_bd D bufs[k].sides
        obtain ⟨r, hr⟩ : ∃ r, sizeS D bufs[k].sides = r := ⟨_, rfl⟩
        simp only [hr] at hqs
        rw [hr] at HBad HGo hsb
        obtain ⟨n, ok⟩ := r
        unfold twoB at hqs
        dsimp only at hqs HBad HGo hsb
        obtain ⟨s0, s1⟩ := hsb
        obtain ⟨sn, hsn⟩ : ∃ sn, bufs[k].sides.length = sn := ⟨_, rfl⟩
        obtain ⟨inp, hinp⟩ : ∃ inp, bufs[k].input = inp := ⟨_, rfl⟩
        rw [hsn] at e0; rw [hinp] at e1; simp only [hsn, hinp] at hnw hqs
        have HQS := Lib.hid hqs; have HNW := Lib.hid hnw
        clear hqs hs hc hse' hr hsl' hnw hsn hinp hB
        go_upto_region 9 with fail
        refine gen_worldA (fun W3 => BufIn wr W3 wr.heap.size (.slice sa' sn sc') inp) HNW.out ?_
        clear HNW
        intro W3 hb3
        obtain ⟨hb3, d0, d1, hzz⟩ := hb3
        have HQ := Lib.hid (HQS.out W3 hb3)
        have HB3 := Lib.hid (bNext hb3 HB.out)
        clear hb3 HQS e0 e1
        cases ok with
        | false =>
          have HE2 := Lib.hid (HBad.out (.inl rfl))
          go_wp2_with (go_at_call 30; refine HQ.out.mono ?_; rintro e w4 ⟨rfl, hb4⟩)
          go_ret2
          exact ⟨ret_two HE2.out, bNext hb4 HB3.out⟩
        | true =>
        by_cases big : 1048576 < all + n
        · have HE2 := Lib.hid (HBad.out (.inr big))
          go_wp2_with (go_at_call 30; refine HQ.out.mono ?_; rintro e w4 ⟨rfl, hb4⟩)
          go_ret2
          exact ⟨ret_two HE2.out, bNext hb4 HB3.out⟩
        · have big' : decide (1048576 < all + n) = false := by simpa using big
          have HE2 := Lib.hid (HGo.out rfl big)
          go_wp2_with (go_at_call 30; refine HQ.out.mono ?_; rintro e w4 ⟨rfl, hb4⟩)
          go_roundw
          case rel => exact ⟨k + 1, all + n, by omega, by go_num, by go_num, by omega, by omega, HE2.out, bNext hb4 HB3.out⟩
          case measure => simp [intOf]; omega
      · have HE2 := Lib.hid (HR.out (all, 0) (by rw [HS.out, List.drop_eq_nil_of_le (by omega)]; rfl))
        go_wp2_with fail
        go_ret2
        exact ⟨ret_two HE2.out, HB.out⟩
end Go.Proofs.Ytabodlhlanolcaa

namespace Go.Proofs.Ytabodlhlanolcaa
set_option maxRecDepth 100000
open Go.RowKit
set_option linter.unusedVariables false
-- DROPS
set_option linter.unusedSimpArgs false
attribute [local go_sem ↓] Go.wp_at_zero Go.wp_at_succ

theorem Rep.lit_els {α : Type} {R : Rep α} {w : World} {g : Nat} {cs : List Value} {t : TypeId} {xs : List α} (hg : w.heap[g]? = some (.cells cs.toArray t (0, 0)))
    (h : ∀ i, (hi : i < xs.length) → ∃ ds, R.At w ds xs[i] ∧ ∀ j v, ds[j]? = some v → cs[i * R.n + j]? = some v) : R.Els w (some ⟨g, 0, none⟩) xs := fun i hi => by
  obtain ⟨ds, h1, h2⟩ := h i hi
  exact ⟨g, 0, ds, rfl, h1, fun j v hj => by rw [Nat.zero_add]; exact (blockCells hg _).trans (h2 j v hj)⟩
/-- n, the variable -/
def monoN : Mono := ⟨1, 1, 0, 0, 0, 0, 0⟩
theorem monoN_wf : monoN.wf := ⟨by decide, by decide, by decide, by decide, by decide, by decide, by decide⟩
/-- a list of two lists of one monomial each -/
def TwoAt (w : World) (u : Value) (m m' : Mono) : Prop := ∃ g1 g2 g3, u = .slice (some ⟨g3, 0, none⟩) 2 2 ∧ w.heap[g1]? = some (.cells m.enc.toArray 39 (0, 0)) ∧ w.heap[g2]? = some (.cells m'.enc.toArray 39 (0, 0)) ∧
  w.heap[g3]? = some (.cells [.slice (some ⟨g1, 0, none⟩) 1 1, .slice (some ⟨g2, 0, none⟩) 1 1].toArray 40 (0, 0))
theorem one_sl {w : World} {g : Nat} {m : Mono} (hm : m.wf) {t : TypeId} (h : w.heap[g]? = some (.cells m.enc.toArray t (0, 0))) : monoRep.Sl w (.slice (some ⟨g, 0, none⟩) 1 1) [m] :=
  ⟨_, 1, rfl, Nat.le_refl _, by decide, (fun e => by cases e), Rep.lit_els h fun i hi => by
    have : i = 0 := by simpa using hi
    subst this
    exact ⟨m.enc, ⟨rfl, hm⟩, fun j v hj => by rw [Nat.zero_mul, Nat.zero_add]; exact hj⟩⟩
theorem TwoAt.sl {w : World} {u : Value} {m m' : Mono} (h : TwoAt w u m m') (hm : m.wf) (hm' : m'.wf) : polyRep.Sl w u [[m], [m']] := by
  obtain ⟨g1, g2, g3, rfl, h1, h2, h3⟩ := h
  refine ⟨_, 2, rfl, Nat.le_refl _, by decide, (fun e => by cases e), Rep.lit_els h3 fun i hi => ?_⟩
  match i, hi with
  | 0, _ => exact ⟨_, ⟨_, rfl, one_sl hm h1⟩, fun j v hj => by
      match j with
      | 0 => cases hj; rfl
      | j + 1 => cases hj⟩
  | 1, _ => exact ⟨_, ⟨_, rfl, one_sl hm' h2⟩, fun j v hj => by
      match j with
      | 0 => cases hj; rfl
      | j + 1 => cases hj⟩
theorem TwoAt.kb {S : Nat → Prop} {w w' : World} {u : Value} {m m' : Mono} (h : TwoAt w u m m') (hk : KB S w w') (hS : ∀ g cs t, w.heap[g]? = some (.cells cs t (0, 0)) → S g → t ≠ 39 ∧ t ≠ 40) : TwoAt w' u m m' := by
  obtain ⟨g1, g2, g3, e, h1, h2, h3⟩ := h
  exact ⟨g1, g2, g3, e, (hk.block g1 (block_lt h1) (fun s => (hS _ _ _ h1 s).1 rfl)).trans h1, (hk.block g2 (block_lt h2) (fun s => (hS _ _ _ h2 s).1 rfl)).trans h2, (hk.block g3 (block_lt h3) (fun s => (hS _ _ _ h3 s).2 rfl)).trans h3⟩
def inBuf (i : Nat) : Buf := ⟨[[monoN], [monoN]], (i : Int)⟩
def inCor (many : Nat) : Cor := ⟨1, (List.range many).map inBuf, [], []⟩
/-- the cells of k buffers -/
def BufCs (w : World) (cs : List Value) (k : Nat) : Prop := cs.length = 2 * k ∧ ∀ i, i < k → ∃ u, cs[2 * i]? = some u ∧ cs[2 * i + 1]? = some (.int .i64 (i : Int)) ∧ TwoAt w u monoN monoN
structure InIn (w W : World) (M C R k : Nat) (v : Value) (cs : List Value) : Prop where
  below : Below w.heap.size w W
  mono : W.heap[M]? = some (.cells monoN.enc.toArray 39 (0, 0))
  core : W.heap[C]? = some (.cells #[.int .i64 1, v, .slice none 0 0, .slice none 0 0] 26 (0, 0))
  res : W.heap[R]? = some (.cells #[.int .i64 0, .slice none 0 0, .slice none 0 0, .slice none 0 0] 26 (0, 0))
  own : W.ownsRow w.heap.size 36 2 v k cs
  bufs : BufCs W cs k
theorem own_type {W : World} {B n size : Nat} {t : TypeId} {v : Value} {xs : List Value} (h : W.ownsRow B t size v n xs) (g : Nat) (e : v.ownBlock = some g) : ∃ cur, W.heap[g]? = some (.cells cur t (0, 0)) := by
  obtain ⟨_, ⟨rfl, _⟩ | ⟨g', cap, cur, rfl, _, hg, _⟩⟩ := h
  · cases e
  · cases e; exact ⟨_, hg⟩
theorem own_ne {W : World} {B n size G : Nat} {t t' : TypeId} {v : Value} {xs : List Value} {cs : Array Value} (h : W.ownsRow B t size v n xs) (hG : W.heap[G]? = some (.cells cs t' (0, 0))) (ht : t' ≠ t) : v.ownBlock ≠ some G := fun e => by
  obtain ⟨cur, hc⟩ := own_type h G e
  rw [hG] at hc
  cases hc
  exact ht rfl
theorem src_lit (W : World) (cs : Array Value) (t : TypeId) (m : Nat) (news : List Value) (G : Nat) (hG : W.heap.size = G) (hn : news = cs.toList) : Src (W.alloc (.cells cs t)) (.slice (some ⟨G, 0, none⟩) m m) m news := by
  subst hG hn
  refine .inr ⟨_, _, rfl, fun j z hz => ?_⟩
  have e : (⟨W.heap.size, 0, none⟩ : Addr).add j = ⟨W.heap.size, j, none⟩ := by unfold Addr.add; split <;> simp_all
  rw [e, cell_of_row _ _ j _ _ _ (World.alloc_heap_new W _)]
  simpa using hz
theorem InIn.kb {w W W4 W' : World} {M C R k : Nat} {v : Value} {cs : List Value} (h : InIn w W M C R k v cs) (h4 : Below W.heap.size W W4) (hg : W4.grownBy W' v.ownBlock) : KB (fun b => v.ownBlock = some b) W W' :=
  (KB.of_below h4 (fun g h1 h2 => by omega)).grown hg (fun q e _ => e)
theorem InIn.put {w W W4 W' : World} {M C R k : Nat} {v v' u : Value} {cs : List Value} (h : InIn w W M C R k v cs) (hC : w.heap.size ≤ C) (hMC : M ≠ C) (hRC : R ≠ C) (h4 : Below W.heap.size W W4) (hu : TwoAt W4 u monoN monoN) (hg : W4.grownBy W' v.ownBlock)
    (hown : W'.ownsRow w.heap.size 36 2 v' (k + 1) (cs ++ [u, .int .i64 (k : Int)])) : InIn w (W'.setCell ⟨C, 1, none⟩ v') M C R (k + 1) v' (cs ++ [u, .int .i64 (k : Int)]) := by
  have hk := h.kb h4 hg
  have hk4 : KB (fun b => v.ownBlock = some b) W4 W' := (KB.refl _ _).grown hg (fun q e _ => e)
  have hcore : W'.heap[C]? = some (.cells #[.int .i64 1, v, .slice none 0 0, .slice none 0 0] 26 (0, 0)) := (hk.block C (block_lt h.core) (own_ne h.own h.core (by decide))).trans h.core
  have hv' := own_ne hown hcore (by decide)
  have hk2 : KB (fun b => v.ownBlock = some b ∨ b = C) W (W'.setCell ⟨C, 1, none⟩ v') := (hk.mono (fun g _ e => .inl e)).setCell (fun _ => .inr rfl) _
  have hk42 : KB (fun b => v.ownBlock = some b ∨ b = C) W4 (W'.setCell ⟨C, 1, none⟩ v') := (hk4.mono (fun g _ e => .inl e)).setCell (fun _ => .inr rfl) _
  have hty : ∀ (w9 : World), Below W.heap.size W w9 → ∀ g cs' t, w9.heap[g]? = some (.cells cs' t (0, 0)) → (v.ownBlock = some g ∨ g = C) → t ≠ 39 ∧ t ≠ 40 := fun w9 h9 g cs' t hg' hS => by
    rcases hS with e | rfl
    · obtain ⟨cur, hc⟩ := own_type h.own g e
      have := (keepBlock hc h9).symm.trans hg'
      cases this
      exact ⟨by decide, by decide⟩
    · have := (keepBlock h.core h9).symm.trans hg'
      cases this
      exact ⟨by decide, by decide⟩
  refine ⟨h.below.trans (hk2.below h.below.size (fun g e => ?_)), (hk2.block M (block_lt h.mono) ?_).trans h.mono, ?_, (hk2.block R (block_lt h.res) ?_).trans h.res, own_other hown (fun g e hgc => hv' (by rw [e, hgc])) _, ?_, fun i hi => ?_⟩
  · rcases e with e | rfl
    · exact (World.ownsRow.lt h.own g e).1
    · exact hC
  · rintro (e | e)
    · exact own_ne h.own h.mono (by decide) e
    · exact hMC e
  · rw [heap_setCell_same _ C _ _ _ _ hcore]; rfl
  · rintro (e | e)
    · exact own_ne h.own h.res (by decide) e
    · exact hRC e
  · rw [List.length_append, h.bufs.1]; simp; omega
  · by_cases e : i = k
    · subst e
      refine ⟨u, ?_, ?_, hu.kb hk42 (hty W4 h4)⟩
      · rw [List.getElem?_append_right (by rw [h.bufs.1]; omega), h.bufs.1]; simp
      · rw [List.getElem?_append_right (by rw [h.bufs.1]; omega), h.bufs.1, show 2 * i + 1 - 2 * i = 1 from by omega]; rfl
    · obtain ⟨u', h1, h2, h3⟩ := h.bufs.2 i (by omega)
      refine ⟨u', ?_, ?_, h3.kb hk2 (hty W (Below.refl _ _))⟩
      · rw [List.getElem?_append_left (by rw [h.bufs.1]; omega)]; exact h1
      · rw [List.getElem?_append_left (by rw [h.bufs.1]; omega)]; exact h2
theorem inIn_new (w : World) : InIn w (((w.alloc (.cells #[.int .i64 0, .slice none 0 0, .slice none 0 0, .slice none 0 0] 26)).alloc (.cells #[.int .i64 1, .int .u8 1, .int .u8 0, .int .u8 0, .int .u8 0, .int .u8 0, .int .u8 0] 39)).alloc (.cells #[.int .i64 1, .slice none 0 0, .slice none 0 0, .slice none 0 0] 26))
    (w.heap.size + 1) (w.heap.size + 1 + 1) w.heap.size 0 (.slice none 0 0) [] := by
  have n0 := World.alloc_heap_new w (.cells #[.int .i64 0, .slice none 0 0, .slice none 0 0, .slice none 0 0] 26)
  have n1 := World.alloc_heap_new (w.alloc (.cells #[.int .i64 0, .slice none 0 0, .slice none 0 0, .slice none 0 0] 26)) (.cells #[.int .i64 1, .int .u8 1, .int .u8 0, .int .u8 0, .int .u8 0, .int .u8 0, .int .u8 0] 39)
  have n2 := World.alloc_heap_new ((w.alloc (.cells #[.int .i64 0, .slice none 0 0, .slice none 0 0, .slice none 0 0] 26)).alloc (.cells #[.int .i64 1, .int .u8 1, .int .u8 0, .int .u8 0, .int .u8 0, .int .u8 0, .int .u8 0] 39)) (.cells #[.int .i64 1, .slice none 0 0, .slice none 0 0, .slice none 0 0] 26)
  simp only [World.size_alloc] at n1 n2
  exact ⟨(((Below.refl _ _).alloc (Nat.le_refl _) _).alloc (by simp) _).alloc (by simp; omega) _, oldBlock n1 _, n2, oldBlock (oldBlock n0 _) _, World.ownsRow_nil _ _ _ _, rfl, fun i hi => absurd hi (Nat.not_lt_zero i)⟩
theorem els_of {B : Nat} {W : World} {k : Nat} {v : Value} {cs : List Value} (ho : W.ownsRow B 36 2 v k cs) (hb : BufCs W cs k) : ∃ ba bc, v = .slice ba k bc ∧ bufRep.Els W ba ((List.range k).map inBuf) := by
  obtain ⟨h1, ⟨rfl, rfl⟩ | ⟨g, cap, cur, rfl, hB, hg, h3⟩⟩ := id ho
  · exact ⟨none, 0, rfl, fun i hi => by simp at hi⟩
  · refine ⟨some ⟨g, 0, none⟩, cap, rfl, fun i hi => ?_⟩
    have hik : i < k := by simpa using hi
    obtain ⟨u, c0, c1, ht⟩ := hb.2 i hik
    have hc := World.ownsRow.cells (g := g) (w := W) ho rfl
    have e : ∀ j, (⟨g, 0, none⟩ : Addr).add j = ⟨g, j, none⟩ := fun j => by unfold Addr.add; split <;> simp_all
    refine ⟨g, 0, [u, .int .i64 (i : Int)], rfl, ?_, fun j z hj => ?_⟩
    · rw [List.getElem_map, List.getElem_range]
      exact ⟨u, rfl, ht.sl monoN_wf monoN_wf, by show -9223372036854775808 ≤ (i : Int) ∧ (i : Int) ≤ 9223372036854775807; have := h3.2.1; unfold maxLen at this; omega⟩
    · have h0 := hc (2 * i) _ c0
      have h1 := hc (2 * i + 1) _ c1
      rw [e] at h0 h1
      simp only [show bufRep.n = 2 from rfl, Nat.zero_add, Nat.mul_comm i 2]
      match j with
      | 0 => cases hj; exact h0
      | 1 => cases hj; exact h1
      | j + 2 => cases hj
theorem InIn.fin {w W W' : World} {M C R k : Nat} {v : Value} {cs : List Value} (h : InIn w W M C R k v cs) (hR : w.heap.size ≤ R) (hk : KB (fun b => b = R) W W') : Below w.heap.size w W' ∧ ∃ ba bc, v = .slice ba k bc ∧ bufRep.Els W' ba ((List.range k).map inBuf) := by
  refine ⟨h.below.trans (hk.below h.below.size (fun g e => by omega)), els_of (hk.row h.own fun g e e' => by subst e'; exact own_ne h.own h.res (by decide) e) ⟨h.bufs.1, fun i hi => ?_⟩⟩
  obtain ⟨u, c0, c1, ht⟩ := h.bufs.2 i hi
  refine ⟨u, c0, c1, ht.kb hk fun g cs' t hg e => ?_⟩
  have e : g = R := e
  subst e
  have := h.res.symm.trans hg
  cases this
  exact ⟨by decide, by decide⟩
theorem two_new (wr : World) (o4 : Obj) :
    Below wr.heap.size wr ((((wr.alloc (.cells #[.int .i64 1, .int .u8 1, .int .u8 0, .int .u8 0, .int .u8 0, .int .u8 0, .int .u8 0] 39)).alloc (.cells #[.int .i64 1, .int .u8 1, .int .u8 0, .int .u8 0, .int .u8 0, .int .u8 0, .int .u8 0] 39)).alloc (.cells #[.slice (some ⟨wr.heap.size, 0, none⟩) 1 1, .slice (some ⟨wr.heap.size + 1, 0, none⟩) 1 1] 40)).alloc o4) ∧
    TwoAt ((((wr.alloc (.cells #[.int .i64 1, .int .u8 1, .int .u8 0, .int .u8 0, .int .u8 0, .int .u8 0, .int .u8 0] 39)).alloc (.cells #[.int .i64 1, .int .u8 1, .int .u8 0, .int .u8 0, .int .u8 0, .int .u8 0, .int .u8 0] 39)).alloc (.cells #[.slice (some ⟨wr.heap.size, 0, none⟩) 1 1, .slice (some ⟨wr.heap.size + 1, 0, none⟩) 1 1] 40)).alloc o4) (.slice (some ⟨wr.heap.size + 1 + 1, 0, none⟩) 2 2) monoN monoN := by
  have n0 := World.alloc_heap_new wr (.cells #[.int .i64 1, .int .u8 1, .int .u8 0, .int .u8 0, .int .u8 0, .int .u8 0, .int .u8 0] 39)
  have n1 := World.alloc_heap_new (wr.alloc (.cells #[.int .i64 1, .int .u8 1, .int .u8 0, .int .u8 0, .int .u8 0, .int .u8 0, .int .u8 0] 39)) (.cells #[.int .i64 1, .int .u8 1, .int .u8 0, .int .u8 0, .int .u8 0, .int .u8 0, .int .u8 0] 39)
  have n2 := World.alloc_heap_new ((wr.alloc (.cells #[.int .i64 1, .int .u8 1, .int .u8 0, .int .u8 0, .int .u8 0, .int .u8 0, .int .u8 0] 39)).alloc (.cells #[.int .i64 1, .int .u8 1, .int .u8 0, .int .u8 0, .int .u8 0, .int .u8 0, .int .u8 0] 39)) (.cells #[.slice (some ⟨wr.heap.size, 0, none⟩) 1 1, .slice (some ⟨wr.heap.size + 1, 0, none⟩) 1 1] 40)
  simp only [World.size_alloc] at n1 n2
  exact ⟨((((Below.refl _ _).alloc (Nat.le_refl _) _).alloc (by simp) _).alloc (by simp; omega) _).alloc (by simp; omega) _, _, _, _, rfl, oldBlock (oldBlock (oldBlock n0 _) _) _, oldBlock (oldBlock n1 _) _, oldBlock n2 _⟩
theorem Try.infoBuf : (Try.prog.info? 36).map (fun i => (i.zero, i.size, i.bytes)) = some (some (.agg #[.slice none 0 0, .int .i64 0]), 2, 32) := by kernel_rfl
set_option maxHeartbeats 16000000 in
theorem input_any (w : World) (many : Nat) (hm : many ≤ 64) : Calls Try.prog 21 #[.int .i64 (many : Int)] w fun e w' => (∃ ba bc, e = .returned (corV (inCor many) ba none none bc 0 0) ∧ CorEls w' (inCor many) ba none none) ∧ Below w.heap.size w w' := by
  obtain ⟨i0, hi, hz0, hz1, hz2⟩ := info_parts Try.infoBuf
  have Hi := Lib.hid hi; have Hz0 := Lib.hid hz0; have Hz1 := Lib.hid hz1; have Hz2 := Lib.hid hz2; clear hi hz0 hz1 hz2
  go_enter Try.func21, Try.ntmps21
  go_upto_region 4 with fail
  refine gen_worldA (fun W => InIn w W (w.heap.size + 1) (w.heap.size + 1 + 1) w.heap.size 0 (.slice none 0 0) []) (inIn_new w) ?_
  intro W hin
  obtain ⟨M, hM⟩ : ∃ M, w.heap.size + 1 = M := ⟨_, rfl⟩
  rw [hM] at hin ⊢
  obtain ⟨C, hC⟩ : ∃ C, M + 1 = C := ⟨_, rfl⟩
  rw [hC] at hin ⊢
  obtain ⟨R, hR⟩ : ∃ R, w.heap.size = R := ⟨_, rfl⟩
  rw [hR] at hM ⊢
  have hin' : InIn w W M C R 0 (.slice none 0 0) [] := by rw [← hR]; exact hin
  have HH : Hid (w.heap.size ≤ C ∧ M ≠ C ∧ R ≠ C ∧ w.heap.size ≤ R) := Lib.hid ⟨by omega, by omega, by omega, by omega⟩
  have HIN := Lib.hid hin'
  clear hin hin' hM hC hR
  go_wp2_with fail
  go_loopw [5] (fun i wr => ∃ (k : Nat) (v : Value) (cs : List Value), k ≤ many ∧ i = .int .i64 k ∧ InIn w wr M C R k v cs) (fun i _ => many - (intOf i).toNat)
  case atStart => exact ⟨0, _, _, Nat.zero_le _, rfl, HIN.out⟩
  case round =>
    clear HIN
    obtain ⟨k, v, cs, hk, rfl, hin⟩ := hrel
    have HIN := Lib.hid hin
    have c1 : wr.cell? ⟨C, 1, none⟩ = some v := blockCells (cs := [.int .i64 1, v, .slice none 0 0, .slice none 0 0]) hin.core 1
    by_cases hlt : k < many
    · have hz0 : (k : Int) < (many : Int) := by omega
      have hm := blockCells hin.mono
      have m0 : wr.cell? ⟨M, 0, none⟩ = some (.int .i64 1) := hm 0
      have m1 : wr.cell? ⟨M, 1, none⟩ = some (.int .u8 1) := hm 1
      have m2 : wr.cell? ⟨M, 2, none⟩ = some (.int .u8 0) := hm 2
      have m3 : wr.cell? ⟨M, 3, none⟩ = some (.int .u8 0) := hm 3
      have m4 : wr.cell? ⟨M, 4, none⟩ = some (.int .u8 0) := hm 4
      have m5 : wr.cell? ⟨M, 5, none⟩ = some (.int .u8 0) := hm 5
      have m6 : wr.cell? ⟨M, 6, none⟩ = some (.int .u8 0) := hm 6
      have hMl := block_lt hin.mono; have hCl := block_lt hin.core
      clear hin hm
      go_wp2_with (at_builtin; (refine wpList_append_src _ rfl _ _ 22 rfl w.heap.size 36 i0 _ 2 32 Try.underlying22 Hi.out Hz0.out Hz1.out Hz2.out rfl (by decide) _ k cs rfl (((((HIN.out.own).alloc _).alloc _).alloc _).alloc _) _ 1 [.slice (some ⟨wr.heap.size + 1 + 1, 0, none⟩) 2 2, .int .i64 (k : Int)] rfl (src_lit _ _ _ _ _ _ (by simp) rfl) rfl ?h1 (by unfold maxLen; omega) (by omega) (by have := HIN.out.below.size; simp; omega) ?_))
      case h1 => intro u hu; simp at hu; rcases hu with rfl | rfl <;> rfl
      intro v' w' hown hg _
      obtain ⟨h4, hu⟩ := two_new wr (.cells #[.slice (some ⟨wr.heap.size + 1 + 1, 0, none⟩) 2 2, .int .i64 (k : Int)] 36)
      have hkb := HIN.out.kb h4 hg
      have hput := HIN.out.put HH.out.1 HH.out.2.1 HH.out.2.2.1 h4 hu hg hown
      have hnC := own_ne HIN.out.own HIN.out.core (by decide)
      have c1' := (hkb.cell (p := ⟨C, 1, none⟩) hCl hnC).trans c1
      have c1f := (hkb.frozen (p := ⟨C, 1, none⟩) hCl hnC).trans (frozen_of_row _ C 1 _ _ HIN.out.core)
      obtain ⟨g9, cap9, rfl⟩ := own_form hown (by omega)
      have HP := Lib.hid hput
      clear h4 hu hkb hput hnC hown hg m0 m1 m2 m3 m4 m5 m6 c1 hMl hCl
      go_wp2_with fail
      go_roundw
      case rel => exact ⟨k + 1, _, _, by omega, by go_num, HP.out⟩
      case measure => simp [intOf]; omega
    · obtain rfl : k = many := by omega
      obtain ⟨ba, bc, rfl, hbe⟩ := els_of hin.own hin.bufs
      have hcc := blockCells (cs := [.int .i64 1, .slice ba k bc, .slice none 0 0, .slice none 0 0]) hin.core
      have hrc := blockCells (cs := [.int .i64 0, .slice none 0 0, .slice none 0 0, .slice none 0 0]) hin.res
      have c0 : wr.cell? ⟨C, 0, none⟩ = some (.int .i64 1) := hcc 0
      have c2 : wr.cell? ⟨C, 2, none⟩ = some (.slice none 0 0) := hcc 2
      have c3 : wr.cell? ⟨C, 3, none⟩ = some (.slice none 0 0) := hcc 3
      have r0 : wr.cell? ⟨R, 0, none⟩ = some (.int .i64 0) := hrc 0
      have r1 : wr.cell? ⟨R, 1, none⟩ = some (.slice none 0 0) := hrc 1
      have r2 : wr.cell? ⟨R, 2, none⟩ = some (.slice none 0 0) := hrc 2
      have r3 : wr.cell? ⟨R, 3, none⟩ = some (.slice none 0 0) := hrc 3
      have f0 := frozen_of_row _ R 0 _ _ hin.res; have f1 := frozen_of_row _ R 1 _ _ hin.res; have f2 := frozen_of_row _ R 2 _ _ hin.res; have f3 := frozen_of_row _ R 3 _ _ hin.res
      clear hin hcc hrc hbe
      have hl : (inCor k).bufs.length = k := by simp [inCor]
      have HL := Lib.hid hl
      clear hl
      go_wp2_with fail
      obtain ⟨hB, ba', bc', e, hE⟩ := HIN.out.fin (W' := ((((wr.setCell ⟨R, 0, none⟩ (.int .i64 1)).setCell ⟨R, 1, none⟩ (.slice ba k bc)).setCell ⟨R, 2, none⟩ (.slice none 0 0)).setCell ⟨R, 3, none⟩ (.slice none 0 0))) HH.out.2.2.2 (((((KB.refl (fun b => b = R) _).setCell (p := ⟨R, 0, none⟩) (fun _ => rfl) _).setCell (p := ⟨R, 1, none⟩) (fun _ => rfl) _).setCell (p := ⟨R, 2, none⟩) (fun _ => rfl) _).setCell (p := ⟨R, 3, none⟩) (fun _ => rfl) _)
      cases e
      have hfin : ((((wr.setCell ⟨R, 0, none⟩ (.int .i64 1)).setCell ⟨R, 1, none⟩ (.slice ba k bc)).setCell ⟨R, 2, none⟩ (.slice none 0 0)).setCell ⟨R, 3, none⟩ (.slice none 0 0)).heap[R]? = some (.cells #[.int .i64 1, .slice ba k bc, .slice none 0 0, .slice none 0 0] 26 (0, 0)) := by
        rw [heap_setCell_same _ R _ _ _ _ (heap_setCell_same _ R _ _ _ _ (heap_setCell_same _ R _ _ _ _ (heap_setCell_same _ R _ _ _ _ HIN.out.res)))]; rfl
      refine bodyPost_ret (v := .agg #[.int .i64 1, .slice ba k bc, .slice none 0 0, .slice none 0 0]) (results_cell_row rfl _ _ R 26 #[.int .i64 1, .slice ba k bc, .slice none 0 0, .slice none 0 0] (0, 0) _ rfl hfin Try.underlying26 rfl (by kernel_rfl)) rfl ?_
      refine ⟨⟨ba, bc, ?_, hE, by simp [inCor]; omega, fun i hi => by simp [inCor] at hi, by simp [inCor], fun i hi => by simp [inCor] at hi, by simp [inCor]⟩, hB⟩
      unfold corV
      rw [HL.out]
      rfl
end Go.Proofs.Ytabodlhlanolcaa

namespace Go.Proofs.Ytabodlhlanolcaa
set_option maxRecDepth 100000
open Go.RowKit
set_option linter.unusedVariables false
-- DROPS
set_option linter.unusedSimpArgs false
attribute [local go_sem ↓] Go.wp_at_zero Go.wp_at_succ

def shOp0 : Cop := ⟨1, 0, 2, [], 0⟩
def shOp1 : Cop := ⟨1, 0, 3, [], 0⟩
def shOp2 : Cop := ⟨6, 0, 0, [], 1⟩
def CopCs (o : Cop) : List Value := [.int .i64 o.how, .int .i64 o.k, .int .i64 o.n, .slice none 0 0, .int .u8 o.fn]
theorem copCs_at (w : World) (o : Cop) (hp : o.p = []) (h1 : I64 o.how) (h2 : I64 o.k) (h3 : I64 o.n) (h4 : U8 o.fn) : copRep.At w (CopCs o) o := ⟨_, rfl, by rw [hp]; exact Rep.Sl.nil _ _, h1, h2, h3, h4⟩
theorem sh_els {w : World} {g : Nat} (h : w.heap[g]? = some (.cells (CopCs shOp0 ++ CopCs shOp1 ++ CopCs shOp2).toArray 48 (0, 0))) : copRep.Els w (some ⟨g, 0, none⟩) [shOp0, shOp1, shOp2] ∧ copRep.Els w (some ⟨g, 10, none⟩) [shOp2] := by
  have a0 := copCs_at w shOp0 rfl (by unfold I64; decide) (by unfold I64; decide) (by unfold I64; decide) (by unfold U8; decide)
  have a1 := copCs_at w shOp1 rfl (by unfold I64; decide) (by unfold I64; decide) (by unfold I64; decide) (by unfold U8; decide)
  have a2 := copCs_at w shOp2 rfl (by unfold I64; decide) (by unfold I64; decide) (by unfold I64; decide) (by unfold U8; decide)
  refine ⟨Rep.lit_els h fun i hi => ?_, fun i hi => ?_⟩
  · match i, hi with
    | 0, _ => exact ⟨_, a0, fun j v hj => by
        match j with
        | 0 => exact hj
        | 1 => exact hj
        | 2 => exact hj
        | 3 => exact hj
        | 4 => exact hj
        | j + 5 => cases hj⟩
    | 1, _ => exact ⟨_, a1, fun j v hj => by
        match j with
        | 0 => exact hj
        | 1 => exact hj
        | 2 => exact hj
        | 3 => exact hj
        | 4 => exact hj
        | j + 5 => cases hj⟩
    | 2, _ => exact ⟨_, a2, fun j v hj => by
        match j with
        | 0 => exact hj
        | 1 => exact hj
        | 2 => exact hj
        | 3 => exact hj
        | 4 => exact hj
        | j + 5 => cases hj⟩
  · have : i = 0 := by simpa using hi
    subst this
    refine ⟨g, 10, _, rfl, a2, fun j v hj => (blockCells h _).trans ?_⟩
    match j with
    | 0 => exact hj
    | 1 => exact hj
    | 2 => exact hj
    | 3 => exact hj
    | 4 => exact hj
    | j + 5 => cases hj
theorem in1 (w : World) : Calls Try.prog 21 #[.int .i64 1] w fun e w' => (∃ ba bc, e = .returned (corV (inCor 1) ba none none bc 0 0) ∧ CorEls w' (inCor 1) ba none none) ∧ Below w.heap.size w w' := input_any w 1 (by decide)
theorem in2 (w : World) : Calls Try.prog 21 #[.int .i64 2] w fun e w' => (∃ ba bc, e = .returned (corV (inCor 2) ba none none bc 0 0) ∧ CorEls w' (inCor 2) ba none none) ∧ Below w.heap.size w w' := input_any w 2 (by decide)
theorem cells_5 : cellsS (inCor 1) [5] = (25, 0) := by kernel_rfl
theorem cells_65537 : cellsS (inCor 1) [65537] = (0, 101) := by kernel_rfl
theorem cells_300 : cellsS (inCor 2) [300] = (0, 102) := by kernel_rfl
theorem right_1 : rightB (inCor 1) = true := by kernel_rfl
theorem depth_3 : depthI [shOp0, shOp1, shOp2] = 2 := by kernel_rfl
theorem depth_1 : depthI [shOp2] = -1 := by kernel_rfl
theorem depth_0 : depthI [] = -1 := by kernel_rfl
theorem ccells_lit (w : World) (c : Cor) (ba sa oa : Option Addr) (bc sc oc : Nat) (h : CorEls w c ba sa oa) (d a b : Int) (hc : cellsS c [d] = (a, b)) (g : Nat) (hg : w.heap.size = g) :
    Calls Try.prog 12 #[corV c ba sa oa bc sc oc, .slice (some ⟨g, 0, none⟩) 1 1] (w.alloc (.cells #[.int .i64 d] 2)) fun e w' => e = .returned (.tuple #[.int .i64 a, .int .i64 b]) ∧ Below w.heap.size w w' := by
  subst hg
  have hb : Below w.heap.size w (w.alloc (.cells #[.int .i64 d] 2)) := (Below.refl _ _).alloc (Nat.le_refl _) _
  have := ccells_any (w.alloc (.cells #[.int .i64 d] 2)) c ba sa oa bc sc oc (h.below hb) (some ⟨w.heap.size, 0, none⟩) 1 [d] (IntsAt.lit .i64 w 2 [d]) (by simp)
  rw [hc] at this
  exact this.mono fun e w' hw => ⟨hw.1, bNext hw.2 hb⟩
set_option maxHeartbeats 16000000 in
theorem shown_any (w : World) : Calls Try.prog 9 #[] w fun e w' => e = .returned (.bool true) ∧ Below w.heap.size w w' := by
  have n0 := World.alloc_heap_new w (.cells (CopCs shOp0 ++ CopCs shOp1 ++ CopCs shOp2).toArray 48)
  have HE := Lib.hid (sh_els n0)
  clear n0
  go_enter Try.func9, Try.ntmps9
  go_upto_region 2 with fail
  refine gen_worldA (fun W => Below w.heap.size w W ∧ copRep.Els W (some ⟨w.heap.size, 0, none⟩) [shOp0, shOp1, shOp2] ∧ copRep.Els W (some ⟨w.heap.size, 10, none⟩) [shOp2]) ⟨(Below.refl _ _).alloc (Nat.le_refl _) _, HE.out⟩ ?_
  clear HE
  rintro W ⟨hB, hE3, hE1⟩
  have HB := Lib.hid hB; have HE3 := Lib.hid hE3; have HE1 := Lib.hid hE1
  clear hB hE3 hE1
  go_wp2_with fail
  refine (in1 _).mono ?_
  rintro e w1 ⟨⟨b1, c1, rfl, hc1⟩, hb1⟩
  have HC1 := Lib.hid hc1; have HB1 := Lib.hid hb1
  clear hc1 hb1
  go_wp2_with fail
  refine (ccells_lit w1 _ _ _ _ _ _ _ HC1.out 5 _ _ cells_5 _ rfl).mono ?_
  rintro e w2 ⟨rfl, hb2⟩
  have HB2 := Lib.hid (bNext hb2 HB1.out)
  clear hb2 HC1 HB1
  go_wp2_with fail
  refine (in1 _).mono ?_
  rintro e w3 ⟨⟨b3, c3, rfl, hc3⟩, hb3⟩
  have HC3 := Lib.hid hc3; have HB3 := Lib.hid (bNext hb3 HB2.out)
  clear hc3 hb3 HB2
  go_wp2_with fail
  refine (ccells_lit w3 _ _ _ _ _ _ _ HC3.out 65537 _ _ cells_65537 _ rfl).mono ?_
  rintro e w4 ⟨rfl, hb4⟩
  have HB4 := Lib.hid (bNext hb4 HB3.out)
  clear hb4 HC3 HB3
  go_wp2_with fail
  refine (in2 _).mono ?_
  rintro e w5 ⟨⟨b5, c5, rfl, hc5⟩, hb5⟩
  have HC5 := Lib.hid hc5; have HB5 := Lib.hid (bNext hb5 HB4.out)
  clear hc5 hb5 HB4
  go_wp2_with fail
  refine (ccells_lit w5 _ _ _ _ _ _ _ HC5.out 300 _ _ cells_300 _ rfl).mono ?_
  rintro e w6 ⟨rfl, hb6⟩
  have HB6 := Lib.hid (bNext hb6 HB5.out)
  clear hb6 HC5 HB5
  go_wp2_with fail
  have hd3 := depth_any w6 (some ⟨w.heap.size, 0, none⟩) 3 [shOp0, shOp1, shOp2] (HE3.out.below copRep HB6.out (Nat.le_refl _)) (by decide)
  rw [depth_3] at hd3
  refine hd3.mono ?_
  rintro e w7 ⟨rfl, hb7⟩
  have HB7 := Lib.hid (bNext hb7 HB6.out)
  clear hb7 hd3
  go_wp2_with fail
  have hd1 := depth_any w7 (some ⟨w.heap.size, 10, none⟩) 1 [shOp2] (HE1.out.below copRep HB7.out (Nat.le_refl _)) (by decide)
  rw [depth_1] at hd1
  refine hd1.mono ?_
  rintro e w8 ⟨rfl, hb8⟩
  have HB8 := Lib.hid (bNext hb8 HB7.out)
  clear hb8 hd1
  go_wp2_with fail
  have hd0 := depth_any w8 none 0 [] (Rep.Els.nil _ _ _) (by decide)
  rw [depth_0] at hd0
  refine hd0.mono ?_
  rintro e w9 ⟨rfl, hb9⟩
  have HB9 := Lib.hid (bNext hb9 HB8.out)
  clear hb9 hd0
  go_wp2_with fail
  refine (in1 _).mono ?_
  rintro e w10 ⟨⟨b10, c10, rfl, hc10⟩, hb10⟩
  have HB10 := Lib.hid (bNext hb10 HB9.out)
  clear hb10
  go_wp2_with fail
  have hr := cright_at w10 (inCor 1) b10 none none c10 0 0 hc10
  rw [right_1] at hr
  refine hr.mono ?_
  rintro e w11 ⟨rfl, hb11⟩
  have HB11 := Lib.hid (bNext hb11 HB10.out)
  clear hb11 hc10 hr
  go_wp2_with fail
  go_ret
  exact ⟨rfl, bNext HB11.out HB.out⟩
end Go.Proofs.Ytabodlhlanolcaa

namespace Go.Proofs.Ytabodlhlanolcaa
set_option maxRecDepth 100000
open Go.RowKit Go.ChangeShapes Go.WideShapes
set_option linter.unusedVariables false
-- DROPS
set_option linter.unusedSimpArgs false

theorem Rep.Els.take {α : Type} {R : Rep α} {w : World} {a : Option Addr} {xs : List α} (h : R.Els w a xs) (k : Nat) : R.Els w a (xs.take k) := fun i hi => by
  simp at hi
  obtain ⟨b, off, cs, e, h1, h2⟩ := h i (by omega)
  exact ⟨b, off, cs, e, by rw [List.getElem_take]; exact h1, h2⟩
end Go.Proofs.Ytabodlhlanolcaa
