import Derived.Test.YtmlfeocdcjhhaaaPH10
import Derived.Lib.AppendZeros
import Derived.WalkSpells
import Derived.Test.YtmlfeocdcjhhaaaPH1
namespace Go.Proofs.Ytmlfeocdcjhhaaa
set_option maxRecDepth 100000
open Go.RowKit
set_option linter.unusedVariables false
set_option linter.unusedSimpArgs false
attribute [local go_sem ↓] Go.wp_at_zero Go.wp_at_succ

theorem Try.infoOp : (Try.prog.info? 44).map (fun i => (i.zero, i.size, i.bytes)) = some (some (.agg #[.int .i64 0, .int .i64 0, .int .i64 0, .slice none 0 0, .int .u8 0]), 5, 56) := by kernel_rfl
theorem Try.infoMono : (Try.prog.info? 47).map (fun i => (i.zero, i.size, i.bytes)) = some (some (.agg #[.int .i64 0, .int .u8 0, .int .u8 0, .int .u8 0, .int .u8 0, .int .u8 0, .int .u8 0]), 7, 16) := by kernel_rfl
theorem eqlNilM (w : World) (a : Option Addr) (l c : Nat) : (binOp .eql 38 (.slice a l c) (.slice none 0 0)).run Try.prog w = .ok (.bool a.isNone) w := Lib.run_eql_slice_nil w 38 47 a l c 0 0 Try.underlying38
theorem MonS.src {B : Bd} {w : World} {v : Value} {p : List Mono} (h : MonS B w v p) : ∃ cs, monoRep.Cs w cs p ∧ Src w v p.length cs := by
  obtain ⟨⟨a, cap, rfl, h1, h2, h3, hx⟩, _⟩ := h
  exact Rep.Els.cs (R := monoRep) (show 0 < 7 by decide) hx rfl (fun e => by have := h3 e; omega)
theorem mono_cs {w w' : World} : ∀ {xs : List Mono} {cs : List Value}, monoRep.Cs w cs xs → monoRep.Cs w' cs xs
  | [], cs, h => h
  | x :: xs, cs, ⟨ds, r, e, h1, h3⟩ => ⟨ds, r, e, h1, mono_cs h3⟩
set_option maxHeartbeats 1000000 in
theorem cloneM_any (w : World) (B0 B : Bd) (hL : B.hi ≤ w.heap.size) (a : Option Addr) (c : Nat) (p : List Mono) (h : MonS B0 w (.slice a p.length c) p) (hl : p.length ≤ 1048576) :
    Calls Try.prog 32 #[.slice a p.length c] w fun e w' => (∃ v, e = .returned v ∧ MonS B w' v p) ∧ Below w.heap.size w w' := by
  obtain ⟨i0, hi, hz0, hz1, hz2⟩ := info_parts Try.infoMono
  have hn := eqlNilM w a p.length c
  cases a with
  | none =>
    have hx : p = [] := by
      cases p with
      | nil => rfl
      | cons x xs => obtain ⟨⟨a', c', e, _, _, _, hx⟩, _⟩ := h; simp only [Value.slice.injEq] at e; obtain ⟨b, off, cs, e2, _⟩ := hx 0 (by simp); rw [← e.1] at e2; cases e2
    subst hx
    clear h hi hz0 hz1 hz2 hn
    have hn := eqlNilM w none 0 c
    go_enter Try.func32, Try.ntmps32
    go_wp2
    go_ret
    exact ⟨⟨_, rfl, MonS.nil _ _⟩, Below.refl _ _⟩
  | some ad =>
    obtain ⟨cs, hcs, hsrc⟩ := h.src
    have hcl := Rep.Cs.len hcs
    have hc1 := Rep.Cs.one hcs
    have hba : Below w.heap.size w (w.alloc (.cells #[] 47)) := (Below.refl _ _).alloc (Nat.le_refl _) _
    have HS := Lib.hid (hsrc.below hba)
    have HO := Lib.hid (World.ownsRow_made (base := w.heap.size) (e := 47) (size := 7) w #[] 0 (Nat.le_refl _) (Nat.zero_le _) rfl)
    have HCS := Lib.hid hcs; have HCL := Lib.hid hcl; have HC1 := Lib.hid hc1; have HB := Lib.hid hba
    have Hi := Lib.hid hi; have Hz0 := Lib.hid hz0; have Hz1 := Lib.hid hz1; have Hz2 := Lib.hid hz2
    clear h hcs hsrc hcl hc1 hba hi hz0 hz1 hz2
    go_enter Try.func32, Try.ntmps32
    go_wp2_with (at_builtin; (refine wpList_append_src _ rfl _ _ 38 rfl w.heap.size 47 i0 _ 7 16 Try.underlying38 Hi.out Hz0.out Hz1.out Hz2.out rfl (by decide) _ 0 _ rfl HO.out _ p.length cs rfl HS.out HCL.out HC1.out (by unfold maxLen; omega) (by omega) HB.out.size ?_); intro v' w1 hown hgrow _)
    have hr := Own_sl (R := monoRep) B hL hown (mono_cs HCS.out) (by simp)
    have hb := HB.out.grown hgrow HB.out.size (fun k e => by cases e; exact Nat.le_refl _)
    have HR := Lib.hid hr; have HB2 := Lib.hid hb
    clear hown hgrow hr hb
    go_wp2
    go_ret
    exact ⟨⟨_, rfl, HR.out⟩, HB2.out⟩
set_option maxHeartbeats 4000000 in
theorem growC_any (w : World) (n : Nat) (hn : n ≤ 2513169434843) : Calls Try.prog 131 #[.slice none 0 0, .int .i64 n] w fun e w' => (∃ v, e = .returned v ∧ w'.ownsRow w.heap.size 44 5 v 0 []) ∧ Below w.heap.size w w' := by
  by_cases h0 : n = 0
  · subst h0
    go_enter Try.func131, Try.ntmps131
    go_wp2
    go_ret
    exact ⟨⟨_, rfl, World.ownsRow_nil _ _ _ _⟩, Below.refl _ _⟩
  · have hpos : 0 < n := by omega
    obtain ⟨i0, hi, hz0, hz1, hz2⟩ := info_parts Try.infoOp
    have hr := fun ty => Lib.run_append_nil_zeros (P := Try.prog) w 22 3 ty 44 i0 _ .i64 .i64 Try.underlying22 Try.underlying3 hi hz0 n hpos (by rw [hz1]; decide) (by omega) (by rw [hz2]; omega)
    have hge := grownCap_ge w n 0 44
    have hle := grownCap_le_maxLen w n 0 44 (by unfold maxLen; omega)
    generalize grownCap w n 0 44 = N at hr hge hle
    have hmade : ∀ cur : Array Value, cur.size = N * 5 → (w.drew.alloc (.cells cur 44)).ownsRow w.heap.size 44 5 (.slice (some ⟨w.heap.size, 0, none⟩) 0 N) 0 [] := fun cur hc => World.ownsRow_made w.drew cur N (Nat.le_refl _) hle hc
    have hsz : ∀ z : Array Value, z.size = 5 → (Builtin.zeroCells z n ++ Builtin.zeroCells z (N - n)).size = N * 5 := fun z hz => by
      rw [Array.size_append, size_zeroCells, size_zeroCells, hz, ← Nat.add_mul]; congr 1; omega
    have hbel : ∀ o, Below w.heap.size w (w.drew.alloc o) := fun o => ((Below.refl _ _).drew).alloc (Nat.le_refl _) o
    have HR := Lib.hid hr; have HM := Lib.hid hmade; have HS := Lib.hid hsz; have HB := Lib.hid hbel
    unfold maxLen at hle
    clear hr hmade hsz hbel hi hz0 hz1 hz2
    go_enter Try.func131, Try.ntmps131
    go_wp2_with (at_builtin; refine Lib.wpList_append_run _ rfl _ _ _ _ rfl _ _ rfl rfl _ _ (HR.out _) ?_)
    go_ret
    exact ⟨⟨_, rfl, HM.out _ (HS.out _ rfl)⟩, HB.out _⟩
theorem flat_take_succ {xss : List (List Cop)} {k : Nat} (h : k < xss.length) : (xss.take (k + 1)).flatten = (xss.take k).flatten ++ xss[k] := by
  rw [List.take_succ_eq_append_getElem h, List.flatten_append]; simp
theorem flat_take_le (xss : List (List Cop)) (k : Nat) : (xss.take k).flatten.length ≤ xss.flatten.length := by
  conv => rhs; rw [← List.take_append_drop k xss]
  rw [List.flatten_append, List.length_append]; omega
/-- the lists that lie in a row -/
theorem els_copL {B : Bd} {w : World} {G : Nat} {xss : List (List Cop)} (h : (copL B).Els w (some ⟨G, 0, none⟩) xss) {k : Nat} (hk : k < xss.length) : ∃ a c, w.cell? ⟨G, k, none⟩ = some (.slice a xss[k].length c) ∧ CopS B w (.slice a xss[k].length c) xss[k] := by
  obtain ⟨b, off, cs, e, ⟨v, rfl, hv⟩, hc⟩ := h k hk
  cases e
  have x0 := hc 0 _ rfl
  obtain ⟨a, c, rfl, _, _⟩ := hv.form
  rw [show 0 + k * (copL B).n + 0 = k from by show 0 + k * 1 + 0 = k; omega] at x0
  exact ⟨a, c, x0, hv⟩
set_option maxHeartbeats 4000000 in
theorem concatC_any (w : World) (B : Bd) (G n : Nat) (hB : B ≤ w.heap.size) (xss : List (List Cop)) (hn : xss.length = n) (hn2 : n ≤ 9223372036854775807) (hl : xss.flatten.length ≤ 2513169434843) (h : (copL B).Els w (some ⟨G, 0, none⟩) xss) :
    Calls Try.prog 92 #[.slice (some ⟨G, 0, none⟩) n n] w (RetC B w xss.flatten) := by
  have HX := Lib.hid h; have HN := Lib.hid hn; have HL := Lib.hid hl; have HB0 := Lib.hid hB
  clear h hl hn hB
  obtain ⟨i0, hi, hz0, hz1, hz2⟩ := info_parts Try.infoOp
  have Hi := Lib.hid hi; have Hz0 := Lib.hid hz0; have Hz1 := Lib.hid hz1; have Hz2 := Lib.hid hz2; clear hi hz0 hz1 hz2
  go_enter Try.func92, Try.ntmps92
  go_wp2_with fail
  go_loop [3, 11] (fun t i => ∃ k T : Nat, k ≤ n ∧ T = (xss.take k).flatten.length ∧ i = .int .i64 k ∧ t = .int .i64 T) (fun _ i => n - (intOf i).toNat)
  case atStart => exact ⟨0, 0, by omega, rfl, rfl, rfl⟩
  case round =>
    obtain ⟨k, T, hk, hT, rfl, rfl⟩ := hrel
    have hTl : T ≤ 2513169434843 := by rw [hT]; exact Nat.le_trans (flat_take_le xss k) HL.out
    by_cases hlt : k < n
    · have hkx : k < xss.length := by rw [HN.out]; exact hlt
      obtain ⟨a, c, x0, -⟩ := els_copL HX.out hkx
      have hT1 := flat_take_succ hkx
      have hT2 := flat_take_le xss (k + 1)
      rw [hT1, List.length_append] at hT2
      have hT3 : (xss.take (k + 1)).flatten.length = T + xss[k].length := by rw [hT1, List.length_append, hT]
      obtain ⟨m, hm⟩ : ∃ m, xss[k].length = m := ⟨_, rfl⟩
      rw [hm] at x0 hT3
      rw [hm, ← hT] at hT2
      have hTm : T + m ≤ 2513169434843 := Nat.le_trans hT2 HL.out
      have HT3 := Lib.hid hT3
      clear hT hT1 hT2 hT3 hm hkx
      go_wp2_with fail
      go_round
      case rel => exact ⟨k + 1, T + m, by omega, HT3.out.symm, by go_num, by go_num⟩
      case measure => simp [intOf] <;> omega
    · obtain rfl : n = k := by omega
      have hTN : T = xss.flatten.length := by rw [hT, ← HN.out, List.take_length]
      have HTN := Lib.hid hTN
      have HG := Lib.hid (growC_any w T hTl)
      clear hT hTN hlt
      go_wp2_with fail
      refine HG.out.mono ?_
      rintro e w1 ⟨⟨v1, rfl, hrow⟩, hb⟩
      have HR := Lib.hid hrow; have HB := Lib.hid hb; clear hrow hb HG
      go_wp2_with fail
      go_loopw [6, 27] (fun v i wr => Below w.heap.size w wr ∧ ∃ (k : Nat) (cs : List Value), k ≤ n ∧ i = .int .i64 k ∧ wr.ownsRow w.heap.size 44 5 v (xss.take k).flatten.length cs ∧ (copO B).Cs wr cs (xss.take k).flatten) (fun _ i _ => n - (intOf i).toNat)
      case atStart => exact ⟨HB.out, 0, [], by omega, rfl, HR.out, rfl⟩
      case round =>
        obtain ⟨hbr, k, cs, hk, rfl, hrow, hcs⟩ := hrel
        clear HR HB
        by_cases hlt : k < n
        · have hkx : k < xss.length := by rw [HN.out]; exact hlt
          have hX := HX.out.below (copL B) hbr (Nat.le_refl _)
          obtain ⟨a, c, x0, hcop⟩ := els_copL hX hkx
          obtain ⟨ds, hds, hsrc⟩ := hcop.src
          have hT1 := flat_take_succ hkx
          have hT2 := flat_take_le xss (k + 1)
          rw [hT1, List.length_append] at hT2
          generalize xss[k] = xk at x0 hcop hds hsrc hT1 hT2
          obtain ⟨m, hm⟩ : ∃ m, xk.length = m := ⟨_, rfl⟩
          have hdl : ds.length = m * 5 := by rw [← hm]; exact Rep.Cs.len hds
          rw [hm] at x0 hsrc
          rw [hm] at hT2
          have hty := fun g (e : _ = some g) => own_typed hrow (g := g) e
          have HT1 := Lib.hid hT1; have HCS := Lib.hid hcs; have HDS := Lib.hid hds; have HD1 := Lib.hid (Rep.Cs.one hds); have HM := Lib.hid hm
          have HROW := Lib.hid hrow; have HSRC := Lib.hid hsrc; have HDL := Lib.hid hdl; have HBR := Lib.hid hbr; have HTY := Lib.hid hty
          have HLE := Lib.hid (Nat.le_trans hT2 HL.out)
          clear hX hcop hds hsrc hT1 hT2 hm hdl hty hcs hrow hbr hkx
          go_wp2_with (at_builtin; (refine wpList_append_src _ rfl _ _ 22 rfl w.heap.size 44 i0 _ 5 56 Try.underlying22 Hi.out Hz0.out Hz1.out Hz2.out rfl (by decide) _ _ cs rfl HROW.out _ m ds rfl HSRC.out HDL.out HD1.out (by have := HLE.out; unfold maxLen; omega) (by have := HLE.out; omega) HBR.out.size ?_); intro v' w2 hown hgrow _)
          have hge : ∀ j, _ = some j → w.heap.size ≤ j := fun j hj => (World.ownsRow.lt HROW.out j hj).1
          have hbB : Below B _ w2 := (Below.refl B.hi _).grown hgrow (Nat.le_trans HB0.out HBR.out.size) (fun j hj => Nat.le_trans HB0.out (hge j hj))
          have hkt : KeepTy 47 _ w2 := KeepTy.grown hgrow (fun g e => by obtain ⟨cur, hh⟩ := HTY.out g e; exact NotTy.of hh (by decide))
          have hc2 := (copO_keepCs hbB hkt HDS.out).append (copO_keepCs hbB hkt HCS.out)
          have HR2 := Lib.hid hown; have HC2 := Lib.hid hc2
          have HB2 := Lib.hid (HBR.out.grown hgrow HBR.out.size hge)
          clear hown hgrow hge hbB hkt hc2 x0
          go_wp2_with fail
          go_roundw
          case rel =>
            refine ⟨HB2.out, k + 1, _, by omega, by go_num, ?_, by rw [HT1.out]; exact HC2.out⟩
            rw [HT1.out, List.length_append, HM.out]
            exact HR2.out
          case measure => simp [intOf] <;> omega
        · obtain rfl : n = k := by omega
          rw [← HN.out, List.take_length] at hrow hcs
          have HR := Lib.hid (CopS.own (Bd.low HB0.out) hrow hcs rfl); have HB := Lib.hid hbr
          clear hrow hcs hbr hlt
          go_wp2_with fail
          go_ret
          exact ⟨⟨_, rfl, HR.out⟩, HB.out⟩
theorem joined_any (w : World) (B : Bd) (G n : Nat) (hB : B ≤ w.heap.size) (xss : List (List Cop)) (hn : xss.length = n) (hn2 : n ≤ 9223372036854775807) (hl : xss.flatten.length ≤ 2513169434843) (h : (copL B).Els w (some ⟨G, 0, none⟩) xss) :
    Calls Try.prog 54 #[.slice (some ⟨G, 0, none⟩) n n] w (RetC B w xss.flatten) := by
  have HQ := Lib.hid (concatC_any w B G n hB xss hn hn2 hl h)
  clear h hl hn hB
  go_enter Try.func54, Try.ntmps54
  go_wp2_with fail
  refine HQ.out.mono ?_
  rintro e w1 ⟨⟨v, rfl, hv⟩, hb⟩
  go_wp2_with fail
  go_ret
  exact ⟨⟨_, rfl, hv⟩, hb⟩
end Go.Proofs.Ytmlfeocdcjhhaaa

namespace Go.Proofs.Ytmlfeocdcjhhaaa
set_option maxRecDepth 100000
open Go.RowKit
set_option linter.unusedVariables false
set_option linter.unusedSimpArgs false
attribute [local go_sem ↓] Go.wp_at_zero Go.wp_at_succ

theorem heap_new {w : World} {o : Obj} {z : Nat} (h : w.heap.size = z) : (w.alloc o).heap[z]? = some o := by subst h; exact World.alloc_heap_new _ _
theorem RetC.mono {B : Bd} {w w0 : World} {xs : List Cop} {e : Ending} {w' : World} (h : RetC B w xs e w') (hb : Below w0.heap.size w0 w) : RetC B w0 xs e w' := ⟨h.1, bNext h.2 hb⟩
/-- lists newly laid in a row -/
theorem litL (W : World) (B : Bd) (G : Nat) (vs : List Value) (xss : List (List Cop)) (hG : W.heap.size = G) (hl : vs.length = xss.length) (h : ∀ i (hi : i < xss.length) (hv : i < vs.length), CopS B W vs[i] xss[i]) :
    (copL B).Els (W.alloc (.cells vs.toArray 22)) (some ⟨G, 0, none⟩) xss := fun i hi => by
  have hb : Below W.heap.size W (W.alloc (.cells vs.toArray 22)) := (Below.refl _ _).alloc (Nat.le_refl _) _
  have hg : (W.alloc (.cells vs.toArray 22)).heap[G]? = some (.cells vs.toArray 22 (0, 0)) := heap_new hG
  refine ⟨G, 0, [vs[i]'(by omega)], rfl, ⟨_, rfl, (h i hi (by omega)).below hb⟩, fun j u hj => ?_⟩
  have : j = 0 := by
    have := (List.getElem?_eq_some_iff.1 hj).1
    simp at this; exact this
  subst this
  simp at hj
  subst hj
  rw [blockCells hg, show 0 + i * (copL B).n + 0 = i from by show 0 + i * 1 + 0 = i; omega]
  simp [show i < vs.length by omega]
theorem join2_any (W : World) (B : Bd) (G1 G2 : Nat) (hB : B ≤ W.heap.size) (hG1 : W.heap.size = G1) (hG2 : G1 + 1 = G2) (v : Value) (x : List Cop) (hx : CopS B W v x) (o : Cop) (pv : Value) (hp : MonS B W pv o.p) (ho : OkO o) (hl : x.length + 1 ≤ 2513169434843) :
    Calls Try.prog 54 #[.slice (some ⟨G2, 0, none⟩) 2 2] ((W.alloc (.cells #[.int .i64 o.how, .int .i64 o.k, .int .i64 o.n, pv, .int .u8 o.fn] 44)).alloc (.cells #[v, .slice (some ⟨G1, 0, none⟩) 1 1] 22)) (RetC B W (x ++ [o])) := by
  have h1 := lit_one W B G1 (by rw [← hG1]; exact Bd.low hB) o pv hG1 hp ho
  have hb : Below W.heap.size W (W.alloc (.cells #[.int .i64 o.how, .int .i64 o.k, .int .i64 o.n, pv, .int .u8 o.fn] 44)) := (Below.refl _ _).alloc (Nat.le_refl _) _
  have hx2 := hx.below hb
  generalize hW : W.alloc (.cells #[.int .i64 o.how, .int .i64 o.k, .int .i64 o.n, pv, .int .u8 o.fn] 44) = W1 at *
  have hs : W1.heap.size = G2 := by rw [← hW]; simp; omega
  have he := litL W1 B G2 [v, .slice (some ⟨G1, 0, none⟩) 1 1] [x, [o]] hs rfl (fun i hi hv => by
    have : i = 0 ∨ i = 1 := by simp at hi; omega
    rcases this with rfl | rfl
    · exact hx2
    · exact h1)
  have hb2 : Below W1.heap.size W1 (W1.alloc (.cells #[v, .slice (some ⟨G1, 0, none⟩) 1 1] 22)) := (Below.refl _ _).alloc (Nat.le_refl _) _
  have hq := joined_any (W1.alloc (.cells #[v, .slice (some ⟨G1, 0, none⟩) 1 1] 22)) B G2 2 (Nat.le_trans hB (Nat.le_trans hb.size hb2.size)) [x, [o]] rfl (by omega) (by simp; omega) he
  rw [show [x, [o]].flatten = x ++ [o] by simp] at hq
  exact hq.mono fun e w' h => h.mono (bNext hb2 hb)
theorem join3_any (W : World) (B : Bd) (G1 G2 : Nat) (hB : B ≤ W.heap.size) (hG1 : W.heap.size = G1) (hG2 : G1 + 1 = G2) (v u : Value) (x y : List Cop) (hx : CopS B W v x) (hy : CopS B W u y) (o : Cop) (pv : Value) (hp : MonS B W pv o.p) (ho : OkO o) (hl : x.length + y.length + 1 ≤ 2513169434843) :
    Calls Try.prog 54 #[.slice (some ⟨G2, 0, none⟩) 3 3] ((W.alloc (.cells #[.int .i64 o.how, .int .i64 o.k, .int .i64 o.n, pv, .int .u8 o.fn] 44)).alloc (.cells #[v, u, .slice (some ⟨G1, 0, none⟩) 1 1] 22)) (RetC B W (x ++ y ++ [o])) := by
  have h1 := lit_one W B G1 (by rw [← hG1]; exact Bd.low hB) o pv hG1 hp ho
  have hb : Below W.heap.size W (W.alloc (.cells #[.int .i64 o.how, .int .i64 o.k, .int .i64 o.n, pv, .int .u8 o.fn] 44)) := (Below.refl _ _).alloc (Nat.le_refl _) _
  have hx2 := hx.below hb
  have hy2 := hy.below hb
  generalize hW : W.alloc (.cells #[.int .i64 o.how, .int .i64 o.k, .int .i64 o.n, pv, .int .u8 o.fn] 44) = W1 at *
  have hs : W1.heap.size = G2 := by rw [← hW]; simp; omega
  have he := litL W1 B G2 [v, u, .slice (some ⟨G1, 0, none⟩) 1 1] [x, y, [o]] hs rfl (fun i hi hv => by
    have : i = 0 ∨ i = 1 ∨ i = 2 := by simp at hi; omega
    rcases this with rfl | rfl | rfl
    · exact hx2
    · exact hy2
    · exact h1)
  have hb2 : Below W1.heap.size W1 (W1.alloc (.cells #[v, u, .slice (some ⟨G1, 0, none⟩) 1 1] 22)) := (Below.refl _ _).alloc (Nat.le_refl _) _
  have hq := joined_any (W1.alloc (.cells #[v, u, .slice (some ⟨G1, 0, none⟩) 1 1] 22)) B G2 3 (Nat.le_trans hB (Nat.le_trans hb.size hb2.size)) [x, y, [o]] rfl (by omega) (by simp; omega) he
  rw [show [x, y, [o]].flatten = x ++ y ++ [o] by simp] at hq
  exact hq.mono fun e w' h => h.mono (bNext hb2 hb)
end Go.Proofs.Ytmlfeocdcjhhaaa
