import Derived.Test.YtmlfeocdcjhhaaaPH24
import Derived.Test.YtmlfeocdcjhhaaaPH23
namespace Go.Proofs.Ytmlfeocdcjhhaaa
set_option maxRecDepth 100000
open Go.RowKit
set_option linter.unusedVariables false
set_option linter.unusedSimpArgs false

theorem KeepTy.set {t : TypeId} {a w : World} (h : KeepTy t a w) {g j : Nat} {cs : Array Value} {t' : TypeId} (hg : w.heap[g]? = some (.cells cs t' (0, 0))) (ht : t' ≠ t) (u : Value) : KeepTy t a (w.setCell ⟨g, j, none⟩ u) := fun g' cur hc => by
  have h1 := h g' cur hc
  have e : g' ≠ g := fun e => by
    subst e
    rw [hg] at h1
    simp only [Option.some.injEq, Obj.cells.injEq, and_true] at h1
    exact ht h1.2
  exact (Below.heap_setCell w ⟨g, j, none⟩ u g' e).trans h1
section
variable {S : Nat → Prop} {a w : World} {g j : Nat} {cs : Array Value}
end
section
variable {w : World} {H : Nat}
end
section
variable {S : Nat → Prop} {B : Bd} {w w' : World}
theorem Sl_kb {α : Type} {R R' : Rep α} {t : TypeId} {v : Value} {xs : List α} (h : R.Sl w v xs) (ho : OkB B t w v) (hk : KB S w w') (hS : ∀ b, B.ok b → ¬ S b) (hn : R'.n = R.n) (hp : 0 < R.n) (hR : ∀ cs x, R.At w cs x → R'.At w' cs x) : R'.Sl w' v xs := by
  obtain ⟨a, cap, e, h1, h2, h3, hx⟩ := h
  refine ⟨a, cap, e, h1, h2, h3, fun i hi => ?_⟩
  obtain ⟨b, off, cs, e2, hat, hc⟩ := hx i hi
  subst e2
  have hok := (ho b off xs.length cap e (by omega)).1
  refine ⟨b, off, cs, rfl, hR _ _ hat, fun j u hj => ?_⟩
  have := hc j u hj
  rw [hn, hk.cell (World.block_lt_of_cell? w _ this) (hS b hok)]
  exact this
theorem MonS.kb {v : Value} {p : List Mono} (h : MonS B w v p) (hk : KB S w w') (hS : ∀ b, B.ok b → ¬ S b) : monoRep.Sl w' v p := Sl_kb (R := monoRep) (R' := monoRep) h.1 h.2 hk hS rfl (by decide) (fun _ _ h => h)
theorem PolS.kb {v : Value} {p : List (List Mono)} (h : PolS B w v p) (hk : KB S w w') (hS : ∀ b, B.ok b → ¬ S b) : polyRep.Sl w' v p := Sl_kb (R' := polyRep) h.1 h.2 hk hS rfl (show 0 < 1 by decide) (fun cs x hx => by
  obtain ⟨u, e, h⟩ := hx
  exact ⟨u, e, h.kb hk hS⟩)
theorem CopS.kb {v : Value} {p : List Cop} (h : CopS B w v p) (hk : KB S w w') (hS : ∀ b, B.ok b → ¬ S b) : copRep.Sl w' v p := Sl_kb (R' := copRep) h.1 h.2 hk hS rfl (show 0 < 5 by decide) (fun cs x hx => by
  obtain ⟨u, e, h, h2⟩ := hx
  exact ⟨u, e, h.kb hk hS, h2⟩)
theorem NewC.kb {vb vs vo : Value} {c : Cor} (h : NewC B w vb vs vo c) (hk : KB S w w') (hS : ∀ b, B.ok b → ¬ S b) : CorAt w' vb vs vo c :=
  ⟨Sl_kb (R' := bufRep) h.bufs.1 h.bufs.2 hk hS rfl (show 0 < 2 by decide) (fun cs x hx => by
    obtain ⟨u, e, h, h2⟩ := hx
    exact ⟨u, e, h.kb hk hS, h2⟩),
   Sl_kb (R' := stpRep) h.steps.1 h.steps.2 hk hS rfl (show 0 < 6 by decide) (fun cs x hx => by
    obtain ⟨v0, v1, v2, e, h0, h1, h2, h3⟩ := hx
    exact ⟨v0, v1, v2, e, h0.kb hk hS, h1.kb hk hS, h2.kb hk hS, h3⟩),
   Sl_kb (R := Rep.int .i64) (R' := Rep.int .i64) h.outs.1 h.outs.2 hk hS rfl (show 0 < 1 by decide) (fun _ _ h => h), h.vars⟩
theorem NewC.below {vb vs vo : Value} {c : Cor} (h : NewC B w vb vs vo c) (hb : Below w.heap.size w w') : NewC B w' vb vs vo c :=
  ⟨⟨h.bufs.1.below _ hb (Nat.le_refl _), h.bufs.2.keep (KeepTy.below hb)⟩, ⟨h.steps.1.below _ hb (Nat.le_refl _), h.steps.2.keep (KeepTy.below hb)⟩, h.outs.below hb, h.vars⟩
end
end Go.Proofs.Ytmlfeocdcjhhaaa

namespace Go.Proofs.Ytmlfeocdcjhhaaa
set_option maxRecDepth 100000
open Go.RowKit
set_option linter.unusedVariables false
set_option linter.unusedSimpArgs false
attribute [local go_sem ↓] Go.wp_at_zero Go.wp_at_succ

theorem keepCB {B : Nat} {w0 W : World} (hb : Below B w0 W) (hB : w0.heap.size ≤ B) {p : Addr} {v : Value} (h : w0.cell? p = some v) : W.cell? p = some v := ((hb.mono hB).cell (World.block_lt_of_cell? w0 _ h)).trans h
theorem MemAt.get {P : Nat → Prop} {w : World} {ma : Option Addr} {ml mc : Nat} {vals : List Value} {mem : List (List Int)} (h : MemAt P w ma ml mc vals mem) {k : Nat} (hk : k < mem.length) :
    ∃ hb ra rc, ma = some ⟨hb, 0, none⟩ ∧ ml = mem.length ∧ w.cell? ⟨hb, k, none⟩ = some (.slice ra mem[k].length rc) ∧ mem[k].length ≤ maxLen ∧ IntsAt .i64 w ra mem[k] ∧ P hb ∧ ∀ b off, ra = some ⟨b, off, none⟩ → P b := by
  obtain ⟨v, e, hr, hp⟩ := h.row k hk
  obtain ⟨ra, rc, rfl, hm, hi⟩ := hr.slice
  obtain ⟨h1, ⟨h2, h3⟩ | ⟨g, cap, cur, hv, hb, hg, h4, h5, h6, h7⟩⟩ := h.hdr
  · omega
  · cases hv
    refine ⟨g, ra, rc, rfl, rfl, ?_, hm, hi, h.hP _ rfl, fun b off e2 => hp b (by rw [e2]; rfl)⟩
    rw [cell_of_row w g k _ _ _ hg]
    rw [← h7, List.getElem?_take_of_lt (by omega)] at e
    simpa using e
/-- what an operation may name -/
structure OpK (L N : Nat) (o : Cop) : Prop where
  ix : o.how = 3 → 0 ≤ o.k ∧ o.k < L
  load : o.how = 4 → 0 ≤ o.k ∧ o.k < N
def OpsE (P : Nat → Prop) (w : World) (M : Nat) (q : MQ) (D : List Int) (R : Ex Int) (x : Ending) (w' : World) : Prop := x = endV R ∧ KB (fun g => ¬ P g) w w' ∧ ∀ v, R = .ok v → MacS P w' M q D [] ∧ In64 v
set_option maxHeartbeats 16000000 in
theorem ops_any (wB w : World) (P : Nat → Prop) (M : Nat) (q : MQ) (D : List Int) (vals : List Value) (mem : List (List Int)) (va : Option Addr) (vc : Nat) (ix : List Int) (la : Option Addr) (lc : Nat) (l : List Cop)
    (h : OIn wB P w M q D vals mem (.slice va ix.length vc) ix []) (hl : copRep.Els wB la l) (hd : 0 ≤ depthI l) (hlen : l.length ≤ 256) (hok : ∀ o ∈ l, OpK ix.length mem.length o) (hix : ∀ x ∈ ix, In64 x) (hmem : MemI mem) (hD : dimsB D = true) (hDl : D.length ≤ 6) :
    Calls Try.prog 80 #[.pointer (some ⟨M, 0, none⟩), .slice la l.length lc, .slice va ix.length vc] w (OpsE P w M q D (opsM D mem ix l)) := by
  obtain ⟨R, hR⟩ : ∃ R, opsM D mem ix l = R := ⟨_, rfl⟩
  have hst := LInv.start hd hR
  rw [hR]
  have HST := Lib.hid hst; have H := Lib.hid h; have HL := Lib.hid hl; have HOK := Lib.hid hok; have HIX := Lib.hid hix; have HMEM := Lib.hid hmem; have HDD := Lib.hid hD
  obtain ⟨X, hX⟩ : ∃ X : List Int, X = ix := ⟨_, rfl⟩
  clear h hl hd hok hix hmem hR hst hD
  obtain ⟨ln, hln⟩ : ∃ n, ix.length = n := ⟨_, rfl⟩
  rw [hln] at H HOK ⊢
  have HLN := Lib.hid hln
  clear hln hX
  go_enter Try.func80, Try.ntmps80
  go_wp2_with fail
  go_loopw [13] (fun i wr => ∃ (k : Nat) (s : List Int), i = .int .i64 k ∧ LInv D mem ix l R k s ∧ OIn wB P wr M q D vals mem (.slice va ln vc) ix s ∧ KB (fun g => ¬ P g) w wr) (fun i _ => l.length - (intOf i).toNat)
  case atStart => exact ⟨0, [], rfl, HST.out, H.out, KB.refl _ _⟩
  case round =>
    obtain ⟨i, s, rfl, hinv, hin, hkb⟩ := hrel
    by_cases hlt : i < l.length
    · have ht := hinv.takes hlt
      have hokk := HOK.out l[i] (List.getElem_mem _)
      obtain ⟨b, off, cs, rfl, ⟨v, rfl, hs, hh, h2, h3, h4⟩, hc⟩ := HL.out i hlt
      have z0 := hc 0 _ rfl; have z1 := hc 1 _ rfl; have z2 := hc 2 _ rfl; have z3 := hc 3 _ rfl; have z4 := hc 4 _ rfl
      simp only [show copRep.n = 5 from rfl, Nat.add_zero] at z0 z1 z2 z3 z4
      obtain ⟨pa, pc, rfl, hpl, hpe⟩ := Rep.Sl.form hs
      obtain ⟨o, ho⟩ : ∃ o, l[i] = o := ⟨_, rfl⟩
      rw [ho] at z0 z1 z2 z3 z4 hpl hpe hokk ht h2 h3 hh
      obtain ⟨how, k, n, p, fn⟩ := o
      dsimp only at z0 z1 z2 z3 z4 hpl hpe hokk ht h2 h3 hh
      have x0 := keepCB hin.below (Nat.le_refl _) z0; have x1 := keepCB hin.below (Nat.le_refl _) z1; have x2 := keepCB hin.below (Nat.le_refl _) z2; have x3 := keepCB hin.below (Nat.le_refl _) z3; have x4 := keepCB hin.below (Nat.le_refl _) z4
      replace hpe := hpe.below monoRep hin.below (Nat.le_refl _)
      have Z1 := Lib.hid z1; have Z4 := Lib.hid z4
      clear z0 z1 z2 z3 z4
      have hs1 : s.length ≤ 1000 := by have := hinv.len; omega
      have HINV := Lib.hid hinv; have HIN := Lib.hid hin; have HKB := Lib.hid hkb; have HO := Lib.hid ho; have HPE := Lib.hid hpe; have HOKK := Lib.hid hokk; have HT := Lib.hid ht
      clear hinv hin hkb hs hc HST H hpe hokk ho h4 HOK
      rcases takes_how (o := ⟨how, k, n, p, fn⟩) ht.1 with rfl | rfl | rfl | rfl | rfl | rfl
      · have hq := push_any P wr M q D s n HIN.out.mac h3 hs1
        have HQ := Lib.hid hq
        clear hq ht
        go_wp2_with (go_at_call 124; refine HQ.out.mono ?_; rintro e w1 ⟨rfl, hm1, hk1⟩)
        go_roundw
        case rel => exact ⟨i + 1, n :: s, by go_num, HINV.out.step hlt (by rw [HO.out]; rfl) (by rw [HO.out]; rfl), HIN.out.next hk1 hm1, HKB.out.trans hk1⟩
        case measure => simp [intOf]; omega
      · obtain ⟨v, hrow, hr1, hr2⟩ := HIN.out.mac.row
        have hv := rval_any wr M q D v hrow pa pc p 121 HPE.out hpl (HIN.out.dims.below HIN.out.below (Nat.le_refl _)) (by omega)
        clear hrow hr1 hr2
        cases hx : valR D p 121 with
        | error e =>
          rw [hx] at hv
          have HV := Lib.hid hv; have HX := Lib.hid hx
          clear hv hx ht
          unfold endV panE at HV
          go_wp2_with (go_at_call 77; refine HV.out.mono ?_; rintro e w1 ⟨rfl, hb1⟩)
          exact ⟨rfl, by
            rw [HINV.out.bad hlt (by rw [HO.out]; show (valR D p 121).map _ = _; rw [HX.out]; rfl)]
            exact ⟨rfl, HKB.out.out hb1, fun v hv => by cases hv⟩⟩
        | ok x =>
          rw [hx] at hv
          have hx64 : In64 x := by
            unfold valR at hx
            split at hx
            · cases hx; exact evalS_in HDD.out p
            · cases hx
          have HV := Lib.hid hv; have HX := Lib.hid hx
          clear hv hx ht
          unfold endV at HV
          go_wp2_with (first | (go_at_call 77; refine HV.out.mono ?_; rintro e w1 ⟨rfl, hb1⟩) | (go_at_call 124; refine (push_any P _ M q D s x (HIN.out.out hb1).mac hx64 hs1).mono ?_; rintro e w2 ⟨rfl, hm1, hk1⟩))
          go_roundw
          case rel => exact ⟨i + 1, x :: s, by go_num, HINV.out.step hlt (by rw [HO.out]; show (valR D p 121).map _ = _; rw [HX.out]; rfl) (by rw [HO.out]; rfl), (HIN.out.out hb1).next hk1 hm1, (HKB.out.out hb1).trans hk1⟩
          case measure => simp [intOf]; omega
      · obtain ⟨hk0, hk1⟩ := HOKK.out.ix rfl
        dsimp only at hk0 hk1
        obtain ⟨kk, rfl⟩ : ∃ kk : Nat, k = kk := ⟨k.toNat, by omega⟩
        obtain ⟨a, cap, e, -, hi⟩ := HIN.out.at_.slice
        cases e
        obtain ⟨b3, off3, rfl, y0⟩ := hi kk (by rw [HLN.out]; omega)
        have hin := HIX.out _ (List.getElem_mem (l := ix) (n := kk) (by rw [HLN.out]; omega))
        obtain ⟨x, hx⟩ : ∃ x, ix[kk]'(by rw [HLN.out]; omega) = x := ⟨_, rfl⟩
        rw [hx] at y0 hin
        have hop : ix.getD kk 0 = x := by rw [List.getD_eq_getElem?_getD, List.getElem?_eq_getElem (by rw [HLN.out]; omega), hx]; rfl
        have HQ := Lib.hid (push_any P wr M q D s x HIN.out.mac hin hs1)
        have HOP := Lib.hid hop
        clear hi hx hop ht hin
        go_wp2_with (go_at_call 124; refine HQ.out.mono ?_; rintro e w1 ⟨rfl, hm1, hk1⟩)
        go_roundw
        case rel => exact ⟨i + 1, x :: s, by go_num, HINV.out.step hlt (by rw [HO.out]; show Except.ok (ix.getD (kk : Int).toNat 0 :: s) = _; rw [Int.toNat_natCast, HOP.out]) (by rw [HO.out]; rfl), HIN.out.next hk1 hm1, HKB.out.trans hk1⟩
        case measure => simp [intOf]; omega
      · obtain ⟨x, s, rfl⟩ : ∃ x s', s = x :: s' := by
          cases s with
          | nil => exact absurd ht.2 (by decide)
          | cons x r => exact ⟨x, r, rfl⟩
        obtain ⟨hk0, hk1⟩ := HOKK.out.load rfl
        dsimp only at hk0 hk1
        obtain ⟨kk, rfl⟩ : ∃ kk : Nat, k = kk := ⟨k.toNat, by omega⟩
        have hkm : kk < mem.length := by omega
        have hq := pop_any P wr M q D s x HIN.out.mac
        have hx64 := HIN.out.mac.in64 x (by simp)
        have HQ := Lib.hid hq; have HX64 := Lib.hid hx64
        clear hq ht hx64
        go_upto_region 14 with (go_at_call 125; refine HQ.out.mono ?_; rintro e w1 ⟨rfl, hm1, hk1⟩)
        have hin1 := HIN.out.next hk1 hm1
        have HKB := Lib.hid (HKB.out.trans hk1)
        clear x0 x1 x2 x3 x4 HQ hm1 hk1 HIN
        obtain ⟨hb, ra, rc, hma, hml, y5, hm5, hi5, hpb, hpr⟩ := hin1.mem.get hkm
        have HPB := Lib.hid hpb; have HPR := Lib.hid hpr
        clear hpb hpr
        obtain ⟨v, hrow, -, -⟩ := hin1.mac.row
        have x5 : w1.cell? ⟨M, 5, none⟩ = some (.slice (some ⟨hb, 0, none⟩) mem.length q.mc) := by rw [cell_of_row w1 M 5 _ _ _ hrow, ← hma, ← hml]; rfl
        have x1 := keepCB hin1.below (Nat.le_refl _) Z1.out
        have hcell : opM D mem ix ⟨4, (kk : Int), n, p, fn⟩ (x :: s) = (cellR mem kk x).map (· :: s) := rfl
        have hgd : mem.getD kk [] = mem[kk] := by rw [List.getD_eq_getElem?_getD, List.getElem?_eq_getElem hkm]; rfl
        unfold cellR at hcell
        rw [Int.toNat_natCast, hgd] at hcell
        obtain ⟨row, hrw⟩ : ∃ row, mem[kk] = row := ⟨_, rfl⟩
        rw [hrw] at hcell y5 hm5 hi5
        have HIN := Lib.hid hin1; have HC := Lib.hid hcell; have HI5 := Lib.hid hi5; have HMA := Lib.hid hma; have HML := Lib.hid hml
        have HRX := Lib.hid (show ∀ y ∈ row, In64 y from hrw ▸ HMEM.out _ (List.getElem_mem hkm))
        obtain ⟨rl, hrl⟩ : ∃ n, row.length = n := ⟨_, rfl⟩
        rw [hrl] at y5 hm5 HC
        have HRL := Lib.hid hrl
        clear hin1 hrow hcell hgd hi5 hma hml hrl hrw
        have hm5' : rl ≤ 9223372036854775807 := hm5
        by_cases hx0 : x < 0
        · have hI : decide (x < 0) = true := by simpa using hx0
          have hR := HINV.out.bad hlt (by rw [HO.out, HC.out, if_pos (.inl hx0)]; rfl)
          have HR := Lib.hid hR
          clear hR hx0
          go_wp2_with (go_quiet (fail))
          exact ⟨rfl, by rw [HR.out]; exact ⟨rfl, HKB.out.drewN _, fun v hv => by cases hv⟩⟩
        by_cases hx1 : (rl : Int) ≤ x
        · have hI : decide (x < 0) = false := by simpa using hx0
          have hJ : decide ((rl : Int) ≤ x) = true := by simpa using hx1
          have hR := HINV.out.bad hlt (by rw [HO.out, HC.out, if_pos (.inr hx1)]; rfl)
          have HR := Lib.hid hR
          clear hR hx0
          go_wp2_with (go_quiet (fail))
          exact ⟨rfl, by rw [HR.out]; exact ⟨rfl, HKB.out.drewN _, fun v hv => by cases hv⟩⟩
        · have hI : decide (x < 0) = false := by simpa using hx0
          have hJ : decide ((rl : Int) ≤ x) = false := by simpa using hx1
          obtain ⟨xx, rfl⟩ : ∃ xx : Nat, x = xx := ⟨x.toNat, by omega⟩
          have hxl : xx < row.length := by have := HRL.out; omega
          obtain ⟨rb, ro, rfl, y6⟩ := HI5.out xx hxl
          obtain ⟨y, hy⟩ : ∃ y, row[xx] = y := ⟨_, rfl⟩
          have hy64 : In64 y := hy ▸ HRX.out _ (List.getElem_mem hxl)
          rw [hy] at y6
          have hgo : opM D mem ix ⟨4, (kk : Int), n, p, fn⟩ (((xx : Nat) : Int) :: s) = .ok (y :: s) := by
            rw [HC.out, if_neg (by omega), Int.toNat_natCast, List.getD_eq_getElem?_getD, List.getElem?_eq_getElem hxl, hy]; rfl
          have HGO := Lib.hid hgo; have HY := Lib.hid hy64
          have hN : xx < rl := by omega
          clear hgo hy hx0 hx1 hxl hJ hy64
          go_upto_region 16 with (go_quiet (fail))
          have hin2 := HIN.out.out (Below.drewN _ nq)
          have HKB := Lib.hid (HKB.out.drewN nq)
          have x1 := keepCB (Below.drewN w1 nq) (Nat.le_refl _) x1; have x5 := keepCB (Below.drewN w1 nq) (Nat.le_refl _) x5; have y5 := keepCB (Below.drewN w1 nq) (Nat.le_refl _) y5; have y6 := keepCB (Below.drewN w1 nq) (Nat.le_refl _) y6
          generalize w1.drewN nq = w2 at hin2 HKB x1 x5 y5 y6 ⊢
          have hS : ∀ (W' : World) (s' : List Int), OIn wB P W' M q D vals mem (.slice va ln vc) ix s' → KB (fun g => ¬ P g) w2 W' → (fun W' : World => W'.cell? ⟨M, 5, none⟩ = some (.slice (some ⟨hb, 0, none⟩) mem.length q.mc) ∧ W'.cell? ⟨b, off + i * 5 + 1, none⟩ = some (.int .i64 kk) ∧ W'.cell? ⟨hb, kk, none⟩ = some (.slice (some ⟨rb, ro, none⟩) rl rc) ∧ W'.cell? ⟨rb, ro + xx, none⟩ = some (.int .i64 y)) W' := fun W' s' ho hk => by
            obtain ⟨v, hrow, -, -⟩ := ho.mac.row
            refine ⟨?_, keepCB ho.below (Nat.le_refl _) Z1.out, ?_, ?_⟩
            · rw [cell_of_row W' M 5 _ _ _ hrow, ← HMA.out, ← HML.out]; rfl
            · rw [hk.cell (World.block_lt_of_cell? w2 _ y5) (fun h => h HPB.out)]; exact y5
            · rw [hk.cell (World.block_lt_of_cell? w2 _ y6) (fun h => h (HPR.out _ _ rfl))]; exact y6
          have HS := Lib.hid hS; have HIN := Lib.hid hin2
          clear hS x1 x5 y5 y6 hin2 hI
          refine wp_region_Z (S := fun W' => W'.cell? ⟨M, 5, none⟩ = some (.slice (some ⟨hb, 0, none⟩) mem.length q.mc) ∧ W'.cell? ⟨b, off + i * 5 + 1, none⟩ = some (.int .i64 kk) ∧ W'.cell? ⟨hb, kk, none⟩ = some (.slice (some ⟨rb, ro, none⟩) rl rc) ∧ W'.cell? ⟨rb, ro + xx, none⟩ = some (.int .i64 y)) (z := 15) (by kernel_rfl) ?_
          have hin3 := HIN.out.out (Below.drewN w2 1)
          have hk3 : KB (fun g => ¬ P g) w2 w2.drew := (KB.refl _ w2).drew
          have HIN := Lib.hid hin3; have HKB := Lib.hid (HKB.out.drew)
          obtain ⟨w3, hw3⟩ : ∃ W, w2.drew = W := ⟨_, rfl⟩
          rw [show w2.drewN 1 = w3 from hw3] at HIN
          rw [hw3] at hk3 HKB ⊢
          have HK3 := Lib.hid hk3
          clear hin3 hk3 hw3
          have hSS := HS.out w3 _ HIN.out HK3.out
          refine wpAnyZ_take (i := 0) (v := ?_) rfl (by kernel_rfl) (by kernel_rfl) (by kernel_rfl) (fun _ _ _ h => h) (by kernel_rfl) (Or.inl ⟨by rfl, ?_⟩) (by assumption) ?_
          rotate_left
          · intro w' hSw
            try dsimp only at hSw
            try obtain ⟨hSw, hSw2⟩ := hSw
            go_simp
            try with_reducible rfl
          show wpAnyZ _ _ _ _ _ _ _ _ (Act.put _ (some 74) _) _
          simp only [Act.put, List.setIfInBounds_toArray, List.set_cons_zero, List.set_cons_succ]
          refine wpAnyZ_take (i := 1) (v := ?_) rfl (by kernel_rfl) (by kernel_rfl) (by kernel_rfl) (fun _ _ _ h => h) (by kernel_rfl) (Or.inl ⟨by rfl, ?_⟩) (by assumption) ?_
          rotate_left
          · intro w' hSw
            try dsimp only at hSw
            try obtain ⟨hSw, hSw2⟩ := hSw
            go_simp
            try with_reducible rfl
          show wpAnyZ _ _ _ _ _ _ _ _ (Act.put _ (some 75) _) _
          simp only [Act.put, List.setIfInBounds_toArray, List.set_cons_zero, List.set_cons_succ]
          refine wpAnyZ_take (i := 2) (v := ?_) rfl (by kernel_rfl) (by kernel_rfl) (by kernel_rfl) (fun _ _ _ h => h) (by kernel_rfl) (Or.inl ⟨by rfl, ?_⟩) (by assumption) ?_
          rotate_left
          · intro w' hSw
            try dsimp only at hSw
            try obtain ⟨hSw, hSw2⟩ := hSw
            go_simp
            try with_reducible rfl
          show wpAnyZ _ _ _ _ _ _ _ _ (Act.put _ (some 76) _) _
          simp only [Act.put, List.setIfInBounds_toArray, List.set_cons_zero, List.set_cons_succ]
          refine wpAnyZ_take (i := 3) (v := ?_) rfl (by kernel_rfl) (by kernel_rfl) (by kernel_rfl) (fun _ _ _ h => h) (by kernel_rfl) (Or.inl ⟨by rfl, ?_⟩) (by assumption) ?_
          rotate_left
          · intro w' hSw
            try dsimp only at hSw
            try obtain ⟨hSw, hSw2⟩ := hSw
            go_simp
            try with_reducible rfl
          show wpAnyZ _ _ _ _ _ _ _ _ (Act.put _ (some 77) _) _
          simp only [Act.put, List.setIfInBounds_toArray, List.set_cons_zero, List.set_cons_succ]
          refine wpAnyZ_take (i := 4) (v := ?_) rfl (by kernel_rfl) (by kernel_rfl) (by kernel_rfl) (fun _ _ _ h => h) (by kernel_rfl) (Or.inl ⟨by rfl, ?_⟩) (by assumption) ?_
          rotate_left
          · intro w' hSw
            try dsimp only at hSw
            try obtain ⟨hSw, hSw2⟩ := hSw
            go_simp
            try with_reducible rfl
          show wpAnyZ _ _ _ _ _ _ _ _ (Act.put _ (some 78) _) _
          simp only [Act.put, List.setIfInBounds_toArray, List.set_cons_zero, List.set_cons_succ]
          refine wpAnyZ_take (i := 5) (v := ?_) rfl (by kernel_rfl) (by kernel_rfl) (by kernel_rfl) (fun _ _ _ h => h) (by kernel_rfl) (Or.inl ⟨by rfl, ?_⟩) (by assumption) ?_
          rotate_left
          · intro w' hSw
            try dsimp only at hSw
            try obtain ⟨hSw, hSw2⟩ := hSw
            go_simp
            try with_reducible rfl
          show wpAnyZ _ _ _ _ _ _ _ _ (Act.put _ (some 79) _) _
          simp only [Act.put, List.setIfInBounds_toArray, List.set_cons_zero, List.set_cons_succ]
          refine wpAnyZ_take (i := 6) (v := ?_) rfl (by kernel_rfl) (by kernel_rfl) (by kernel_rfl) (fun _ _ _ h => h) (by kernel_rfl) (Or.inl ⟨by rfl, ?_⟩) (by assumption) ?_
          rotate_left
          · intro w' hSw
            try dsimp only at hSw
            try obtain ⟨hSw, hSw2⟩ := hSw
            go_simp
            try with_reducible rfl
          show wpAnyZ _ _ _ _ _ _ _ _ (Act.put _ (some 80) _) _
          simp only [Act.put, List.setIfInBounds_toArray, List.set_cons_zero, List.set_cons_succ]
          refine wpAnyZ_take (i := 7) (v := ?_) rfl (by kernel_rfl) (by kernel_rfl) (by kernel_rfl) (fun _ _ _ h => h) (by kernel_rfl) (Or.inl ⟨by rfl, ?_⟩) (by assumption) ?_
          rotate_left
          · intro w' hSw
            try dsimp only at hSw
            try obtain ⟨hSw, hSw2⟩ := hSw
            go_simp
            try with_reducible rfl
          show wpAnyZ _ _ _ _ _ _ _ _ (Act.put _ (some 81) _) _
          simp only [Act.put, List.setIfInBounds_toArray, List.set_cons_zero, List.set_cons_succ]
          refine wpAnyZ_take (i := 8) (v := ?_) rfl (by kernel_rfl) (by kernel_rfl) (by kernel_rfl) (fun _ _ _ h => h) (by kernel_rfl) (Or.inl ⟨by rfl, ?_⟩) (by assumption) ?_
          rotate_left
          · intro w' hSw
            try dsimp only at hSw
            try obtain ⟨hSw, hSw2⟩ := hSw
            go_simp
            try with_reducible rfl
          show wpAnyZ _ _ _ _ _ _ _ _ (Act.put _ (some 82) _) _
          simp only [Act.put, List.setIfInBounds_toArray, List.set_cons_zero, List.set_cons_succ]
          refine wpAnyZ_take (i := 9) (v := ?_) rfl (by kernel_rfl) (by kernel_rfl) (by kernel_rfl) (fun _ _ _ h => h) (by kernel_rfl) (Or.inl ⟨by rfl, ?_⟩) (by assumption) ?_
          rotate_left
          · intro w' hSw
            try dsimp only at hSw
            try obtain ⟨hSw, hSw2⟩ := hSw
            go_simp
            try with_reducible rfl
          show wpAnyZ _ _ _ _ _ _ _ _ (Act.put _ (some 83) _) _
          simp only [Act.put, List.setIfInBounds_toArray, List.set_cons_zero, List.set_cons_succ]
          refine wpAnyZ_take (i := 10) (v := ?_) rfl (by kernel_rfl) (by kernel_rfl) (by kernel_rfl) (fun _ _ _ h => h) (by kernel_rfl) (Or.inl ⟨by rfl, ?_⟩) (by assumption) ?_
          rotate_left
          · intro w' hSw
            try dsimp only at hSw
            try obtain ⟨hSw, hSw2⟩ := hSw
            go_simp
            try with_reducible rfl
          show wpAnyZ _ _ _ _ _ _ _ _ (Act.put _ (some 84) _) _
          simp only [Act.put, List.setIfInBounds_toArray, List.set_cons_zero, List.set_cons_succ]
          refine wpAnyZ_take (i := 11) (v := ?_) rfl (by kernel_rfl) (by kernel_rfl) (by kernel_rfl) (fun _ _ _ h => h) (by kernel_rfl) (Or.inl ⟨by rfl, ?_⟩) (by assumption) ?_
          rotate_left
          · intro w' hSw
            try dsimp only at hSw
            try obtain ⟨hSw, hSw2⟩ := hSw
            go_simp
            try with_reducible rfl
          show wpAnyZ _ _ _ _ _ _ _ _ (Act.put _ (some 85) _) _
          simp only [Act.put, List.setIfInBounds_toArray, List.set_cons_zero, List.set_cons_succ]
          refine wpAnyZ_take (i := 12) (v := ?_) rfl (by kernel_rfl) (by kernel_rfl) (by kernel_rfl) (fun _ _ _ h => h) (by kernel_rfl) (Or.inl ⟨by rfl, ?_⟩) (by assumption) ?_
          rotate_left
          · intro w' hSw
            try dsimp only at hSw
            try obtain ⟨hSw, hSw2⟩ := hSw
            go_simp
            try with_reducible rfl
          show wpAnyZ _ _ _ _ _ _ _ _ (Act.put _ (some 86) _) _
          simp only [Act.put, List.setIfInBounds_toArray, List.set_cons_zero, List.set_cons_succ]
          refine wpAnyZ_take (i := 13) (v := ?_) rfl (by kernel_rfl) (by kernel_rfl) (by kernel_rfl) (fun _ _ _ h => h) (by kernel_rfl) (Or.inl ⟨by rfl, ?_⟩) (by assumption) ?_
          rotate_left
          · intro w' hSw
            try dsimp only at hSw
            try obtain ⟨hSw, hSw2⟩ := hSw
            go_simp
            try with_reducible rfl
          show wpAnyZ _ _ _ _ _ _ _ _ (Act.put _ (some 87) _) _
          simp only [Act.put, List.setIfInBounds_toArray, List.set_cons_zero, List.set_cons_succ]
          clear hSS
          refine wpAnyZ_one (i := 14) (by kernel_rfl) rfl rfl (fun K hK => ?_)
          go_simp
          refine (push_any P w3 M q D s y HIN.out.mac HY.out (by simp at hs1; omega)).mono ?_
          rintro e w4 ⟨rfl, hm4, hk4⟩
          have hin4 := HIN.out.next hk4 hm4
          show K _ w4
          refine hK.out _ _ (.inr (HS.out w4 _ hin4 (HK3.out.trans hk4))) ?_
          have HKB := Lib.hid (HKB.out.trans hk4); have HIN := Lib.hid hin4
          clear hK hk4 hm4 hin4 HK3 HS
          refine wpAnyZ_done (by kernel_rfl) ?_ _
          go_wp2_with fail
          go_roundw
          case rel => exact ⟨i + 1, y :: s, by go_num, HINV.out.step hlt (by rw [HO.out]; exact HGO.out) (by rw [HO.out]; simp [takesI]), HIN.out, HKB.out⟩
          case measure => simp [intOf]; omega
      · obtain ⟨x, s, rfl⟩ : ∃ x s', s = x :: s' := by
          cases s with
          | nil => exact absurd ht.2 (by decide)
          | cons x r => exact ⟨x, r, rfl⟩
        have hx64 := HIN.out.mac.in64 x (by simp)
        obtain ⟨r, hr⟩ : ∃ r, monadF fn x = r := ⟨_, rfl⟩
        obtain ⟨n1, e1⟩ := r
        have hn64 : In64 n1 := by have := monad_in (f := fn) hx64; rw [hr] at this; exact this
        have hcell : opM D mem ix ⟨5, k, n, p, fn⟩ (x :: s) = (mustR (n1, e1)).map (· :: s) := by show (mustR (monadF fn x)).map _ = _; rw [hr]
        have hS : ∀ (W' : World) (s' : List Int), OIn wB P W' M q D vals mem (.slice va ln vc) ix s' → (fun W' : World => W'.cell? ⟨b, off + i * 5 + 4, none⟩ = some (.int .u8 fn)) W' := fun W' s' ho => keepCB ho.below (Nat.le_refl _) Z4.out
        have HS := Lib.hid hS; have HC := Lib.hid hcell; have HX64 := Lib.hid hx64; have HN64 := Lib.hid hn64; have HR := Lib.hid hr; have HT := Lib.hid ht
        clear hx64 hr hn64 hcell hS ht x1 x2 x3 x4
        go_upto_region 18 with fail
        refine wp_region_Z (S := fun W' => W'.cell? ⟨b, off + i * 5 + 4, none⟩ = some (.int .u8 fn)) (z := 12) (by kernel_rfl) ?_
        have hin3 := HIN.out.out (Below.drewN wr 1)
        have HIN := Lib.hid hin3; have HKB := Lib.hid (HKB.out.drew)
        obtain ⟨w3, hw3⟩ : ∃ W, wr.drew = W := ⟨_, rfl⟩
        rw [show wr.drewN 1 = w3 from hw3] at HIN
        rw [hw3] at HKB ⊢
        clear hin3 hw3 x0
        have hSS := HS.out w3 _ HIN.out
        refine wpAnyZ_take (i := 0) (v := ?_) rfl (by kernel_rfl) (by kernel_rfl) (by kernel_rfl) (fun _ _ _ h => h) (by kernel_rfl) (Or.inl ⟨by rfl, ?_⟩) (by assumption) ?_
        rotate_left
        · intro w' hSw
          try dsimp only at hSw
          try obtain ⟨hSw, hSw2⟩ := hSw
          go_simp
          try with_reducible rfl
        show wpAnyZ _ _ _ _ _ _ _ _ (Act.put _ (some 91) _) _
        simp only [Act.put, List.setIfInBounds_toArray, List.set_cons_zero, List.set_cons_succ]
        refine wpAnyZ_take (i := 1) (v := ?_) rfl (by kernel_rfl) (by kernel_rfl) (by kernel_rfl) (fun _ _ _ h => h) (by kernel_rfl) (Or.inl ⟨by rfl, ?_⟩) (by assumption) ?_
        rotate_left
        · intro w' hSw
          try dsimp only at hSw
          try obtain ⟨hSw, hSw2⟩ := hSw
          go_simp
          try with_reducible rfl
        show wpAnyZ _ _ _ _ _ _ _ _ (Act.put _ (some 92) _) _
        simp only [Act.put, List.setIfInBounds_toArray, List.set_cons_zero, List.set_cons_succ]
        refine wpAnyZ_take (i := 2) (v := ?_) rfl (by kernel_rfl) (by kernel_rfl) (by kernel_rfl) (fun _ _ _ h => h) (by kernel_rfl) (Or.inl ⟨by rfl, ?_⟩) (by assumption) ?_
        rotate_left
        · intro w' hSw
          try dsimp only at hSw
          try obtain ⟨hSw, hSw2⟩ := hSw
          go_simp
          try with_reducible rfl
        show wpAnyZ _ _ _ _ _ _ _ _ (Act.put _ (some 93) _) _
        simp only [Act.put, List.setIfInBounds_toArray, List.set_cons_zero, List.set_cons_succ]
        refine wpAnyZ_take (i := 3) (v := ?_) rfl (by kernel_rfl) (by kernel_rfl) (by kernel_rfl) (fun _ _ _ h => h) (by kernel_rfl) (Or.inl ⟨by rfl, ?_⟩) (by assumption) ?_
        rotate_left
        · intro w' hSw
          try dsimp only at hSw
          try obtain ⟨hSw, hSw2⟩ := hSw
          go_simp
          try with_reducible rfl
        show wpAnyZ _ _ _ _ _ _ _ _ (Act.put _ (some 94) _) _
        simp only [Act.put, List.setIfInBounds_toArray, List.set_cons_zero, List.set_cons_succ]
        refine wpAnyZ_take (i := 4) (v := ?_) rfl (by kernel_rfl) (by kernel_rfl) (by kernel_rfl) (fun _ _ _ h => h) (by kernel_rfl) (Or.inl ⟨by rfl, ?_⟩) (by assumption) ?_
        rotate_left
        · intro w' hSw
          try dsimp only at hSw
          try obtain ⟨hSw, hSw2⟩ := hSw
          go_simp
          try with_reducible rfl
        show wpAnyZ _ _ _ _ _ _ _ _ (Act.put _ (some 95) _) _
        simp only [Act.put, List.setIfInBounds_toArray, List.set_cons_zero, List.set_cons_succ]
        refine wpAnyZ_take (i := 5) (v := ?_) rfl (by kernel_rfl) (by kernel_rfl) (by kernel_rfl) (fun _ _ _ h => h) (by kernel_rfl) (Or.inl ⟨by rfl, ?_⟩) (by assumption) ?_
        rotate_left
        · intro w' hSw
          try dsimp only at hSw
          try obtain ⟨hSw, hSw2⟩ := hSw
          go_simp
          try with_reducible rfl
        show wpAnyZ _ _ _ _ _ _ _ _ (Act.put _ (some 96) _) _
        simp only [Act.put, List.setIfInBounds_toArray, List.set_cons_zero, List.set_cons_succ]
        clear hSS
        refine wpAnyZ_one (i := 6) (by kernel_rfl) rfl rfl (fun K hK => ?_)
        go_simp
        refine (pop_any P w3 M q D s x HIN.out.mac).mono ?_
        rintro e w4 ⟨rfl, hm4, hk4⟩
        have hin4 := HIN.out.next hk4 hm4
        show K _ w4
        refine hK.out _ _ (.inr (HS.out w4 _ hin4)) ?_
        have HKB := Lib.hid (HKB.out.trans hk4); have HIN := Lib.hid hin4
        clear hK hk4 hm4 hin4
        refine wpAnyZ_one (i := 7) (by kernel_rfl) rfl rfl (fun K hK => ?_)
        go_simp
        refine (monad_at w4 fn x n1 e1 HX64.out HR.out).mono ?_
        rintro e w5 ⟨rfl, nd, hnd⟩
        have hin5 := HIN.out.out (Below.drewN w4 nd)
        have HKB := Lib.hid (HKB.out.drewN nd)
        rw [← hnd] at hin5 HKB
        show K _ _
        refine hK.out _ _ (.inr (HS.out w5 _ hin5)) ?_
        have HIN := Lib.hid hin5
        clear hK hnd hin5
        have hSS := HS.out w5 _ HIN.out
        refine wpAnyZ_take (i := 8) (v := ?_) rfl (by kernel_rfl) (by kernel_rfl) (by kernel_rfl) (fun _ _ _ h => h) (by kernel_rfl) (Or.inl ⟨by rfl, ?_⟩) (by assumption) ?_
        rotate_left
        · intro w' hSw
          try dsimp only at hSw
          try obtain ⟨hSw, hSw2⟩ := hSw
          go_simp
          try with_reducible rfl
        show wpAnyZ _ _ _ _ _ _ _ _ (Act.put _ (some 99) _) _
        simp only [Act.put, List.setIfInBounds_toArray, List.set_cons_zero, List.set_cons_succ]
        refine wpAnyZ_take (i := 9) (v := ?_) rfl (by kernel_rfl) (by kernel_rfl) (by kernel_rfl) (fun _ _ _ h => h) (by kernel_rfl) (Or.inl ⟨by rfl, ?_⟩) (by assumption) ?_
        rotate_left
        · intro w' hSw
          try dsimp only at hSw
          try obtain ⟨hSw, hSw2⟩ := hSw
          go_simp
          try with_reducible rfl
        show wpAnyZ _ _ _ _ _ _ _ _ (Act.put _ (some 100) _) _
        simp only [Act.put, List.setIfInBounds_toArray, List.set_cons_zero, List.set_cons_succ]
        clear hSS
        refine wpAnyZ_one (i := 10) (by kernel_rfl) rfl rfl (fun K hK => ?_)
        go_simp
        refine (must_any w5 n1 e1).mono ?_
        rintro e w6 ⟨rfl, rfl⟩
        cases hmu : mustR (n1, e1) with
        | error ee =>
          clear hK
          unfold endV panE
          dsimp only
          have hR := HINV.out.bad hlt (by rw [HO.out, HC.out, hmu]; rfl)
          exact ⟨rfl, by rw [hR]; exact ⟨rfl, HKB.out, fun v hv => by cases hv⟩⟩
        | ok y =>
          have hy : y = n1 := by
            unfold mustR at hmu
            split at hmu
            · cases hmu; rfl
            · cases hmu
          subst hy
          unfold endV
          dsimp only
          show K _ _
          refine hK.out _ _ (.inr (HS.out w6 _ HIN.out)) ?_
          clear hK
          refine wpAnyZ_one (i := 11) (by kernel_rfl) rfl rfl (fun K hK => ?_)
          go_simp
          refine (push_any P w6 M q D s y HIN.out.mac HN64.out (by simp at hs1; omega)).mono ?_
          rintro e w7 ⟨rfl, hm7, hk7⟩
          have hin7 := HIN.out.next hk7 hm7
          show K _ w7
          refine hK.out _ _ (.inr (HS.out w7 _ hin7)) ?_
          have HKB := Lib.hid (HKB.out.trans hk7); have HIN := Lib.hid hin7
          have hgo := HINV.out.step (s' := y :: s) hlt (by rw [HO.out, HC.out, hmu]; rfl) (by rw [HO.out]; simp [takesI])
          have HGO := Lib.hid hgo
          clear hK hk7 hm7 hin7 HS hmu hgo
          refine wpAnyZ_done (by kernel_rfl) ?_ _
          go_wp2_with fail
          go_roundw
          case rel => exact ⟨i + 1, y :: s, by go_num, HGO.out, HIN.out, HKB.out⟩
          case measure => simp [intOf]; omega
      · obtain ⟨x2, x, s, rfl⟩ : ∃ x2 x s', s = x2 :: x :: s' := by
          rcases s with _ | ⟨x, _ | ⟨y, r⟩⟩
          · exact absurd ht.2 (by decide)
          · exact absurd ht.2 (by simp [takesI])
          · exact ⟨x, y, r, rfl⟩
        have hx64 := HIN.out.mac.in64 x (by simp)
        have hz64 := HIN.out.mac.in64 x2 (by simp)
        obtain ⟨r, hr⟩ : ∃ r, dyadF fn x x2 = r := ⟨_, rfl⟩
        obtain ⟨n1, e1⟩ := r
        have hn64 : In64 n1 := by have := dyad_in (f := fn) hx64 hz64; rw [hr] at this; exact this
        have hcell : opM D mem ix ⟨6, k, n, p, fn⟩ (x2 :: x :: s) = (mustR (n1, e1)).map (· :: s) := by show (mustR (dyadF fn x x2)).map _ = _; rw [hr]
        have HQ := Lib.hid (pop_any P wr M q D (x :: s) x2 HIN.out.mac)
        have HZ64 := Lib.hid hz64
        clear hz64
        have hS : ∀ (W' : World) (s' : List Int), OIn wB P W' M q D vals mem (.slice va ln vc) ix s' → (fun W' : World => W'.cell? ⟨b, off + i * 5 + 4, none⟩ = some (.int .u8 fn)) W' := fun W' s' ho => keepCB ho.below (Nat.le_refl _) Z4.out
        have HS := Lib.hid hS; have HC := Lib.hid hcell; have HX64 := Lib.hid hx64; have HN64 := Lib.hid hn64; have HR := Lib.hid hr; have HT := Lib.hid ht
        clear hx64 hr hn64 hcell hS ht x1 x3 x4
        go_upto_region 21 with (go_at_call 125; refine HQ.out.mono ?_; rintro e w1 ⟨rfl, hm1, hk1⟩)
        have hin1 := HIN.out.next hk1 hm1
        have HKB := Lib.hid (HKB.out.trans hk1); have HIN := Lib.hid hin1
        clear hin1 hm1 hk1 HQ
        refine wp_region_Z (S := fun W' => W'.cell? ⟨b, off + i * 5 + 4, none⟩ = some (.int .u8 fn)) (z := 13) (by kernel_rfl) ?_
        have hin3 := HIN.out.out (Below.drewN w1 1)
        have HIN := Lib.hid hin3; have HKB := Lib.hid (HKB.out.drew)
        obtain ⟨w3, hw3⟩ : ∃ W, w1.drew = W := ⟨_, rfl⟩
        rw [show w1.drewN 1 = w3 from hw3] at HIN
        rw [hw3] at HKB ⊢
        clear hin3 hw3 x0
        have hSS := HS.out w3 _ HIN.out
        refine wpAnyZ_take (i := 0) (v := ?_) rfl (by kernel_rfl) (by kernel_rfl) (by kernel_rfl) (fun _ _ _ h => h) (by kernel_rfl) (Or.inl ⟨by rfl, ?_⟩) (by assumption) ?_
        rotate_left
        · intro w' hSw
          try dsimp only at hSw
          try obtain ⟨hSw, hSw2⟩ := hSw
          go_simp
          try with_reducible rfl
        show wpAnyZ _ _ _ _ _ _ _ _ (Act.put _ (some 107) _) _
        simp only [Act.put, List.setIfInBounds_toArray, List.set_cons_zero, List.set_cons_succ]
        refine wpAnyZ_take (i := 1) (v := ?_) rfl (by kernel_rfl) (by kernel_rfl) (by kernel_rfl) (fun _ _ _ h => h) (by kernel_rfl) (Or.inl ⟨by rfl, ?_⟩) (by assumption) ?_
        rotate_left
        · intro w' hSw
          try dsimp only at hSw
          try obtain ⟨hSw, hSw2⟩ := hSw
          go_simp
          try with_reducible rfl
        show wpAnyZ _ _ _ _ _ _ _ _ (Act.put _ (some 108) _) _
        simp only [Act.put, List.setIfInBounds_toArray, List.set_cons_zero, List.set_cons_succ]
        refine wpAnyZ_take (i := 2) (v := ?_) rfl (by kernel_rfl) (by kernel_rfl) (by kernel_rfl) (fun _ _ _ h => h) (by kernel_rfl) (Or.inl ⟨by rfl, ?_⟩) (by assumption) ?_
        rotate_left
        · intro w' hSw
          try dsimp only at hSw
          try obtain ⟨hSw, hSw2⟩ := hSw
          go_simp
          try with_reducible rfl
        show wpAnyZ _ _ _ _ _ _ _ _ (Act.put _ (some 109) _) _
        simp only [Act.put, List.setIfInBounds_toArray, List.set_cons_zero, List.set_cons_succ]
        refine wpAnyZ_take (i := 3) (v := ?_) rfl (by kernel_rfl) (by kernel_rfl) (by kernel_rfl) (fun _ _ _ h => h) (by kernel_rfl) (Or.inl ⟨by rfl, ?_⟩) (by assumption) ?_
        rotate_left
        · intro w' hSw
          try dsimp only at hSw
          try obtain ⟨hSw, hSw2⟩ := hSw
          go_simp
          try with_reducible rfl
        show wpAnyZ _ _ _ _ _ _ _ _ (Act.put _ (some 110) _) _
        simp only [Act.put, List.setIfInBounds_toArray, List.set_cons_zero, List.set_cons_succ]
        refine wpAnyZ_take (i := 4) (v := ?_) rfl (by kernel_rfl) (by kernel_rfl) (by kernel_rfl) (fun _ _ _ h => h) (by kernel_rfl) (Or.inl ⟨by rfl, ?_⟩) (by assumption) ?_
        rotate_left
        · intro w' hSw
          try dsimp only at hSw
          try obtain ⟨hSw, hSw2⟩ := hSw
          go_simp
          try with_reducible rfl
        show wpAnyZ _ _ _ _ _ _ _ _ (Act.put _ (some 111) _) _
        simp only [Act.put, List.setIfInBounds_toArray, List.set_cons_zero, List.set_cons_succ]
        refine wpAnyZ_take (i := 5) (v := ?_) rfl (by kernel_rfl) (by kernel_rfl) (by kernel_rfl) (fun _ _ _ h => h) (by kernel_rfl) (Or.inl ⟨by rfl, ?_⟩) (by assumption) ?_
        rotate_left
        · intro w' hSw
          try dsimp only at hSw
          try obtain ⟨hSw, hSw2⟩ := hSw
          go_simp
          try with_reducible rfl
        show wpAnyZ _ _ _ _ _ _ _ _ (Act.put _ (some 112) _) _
        simp only [Act.put, List.setIfInBounds_toArray, List.set_cons_zero, List.set_cons_succ]
        refine wpAnyZ_take (i := 7) (v := ?_) rfl (by kernel_rfl) (by kernel_rfl) (by kernel_rfl) (fun _ _ _ h => h) (by kernel_rfl) (Or.inl ⟨by rfl, ?_⟩) (by assumption) ?_
        rotate_left
        · intro w' hSw
          try dsimp only at hSw
          try obtain ⟨hSw, hSw2⟩ := hSw
          go_simp
          try with_reducible rfl
        show wpAnyZ _ _ _ _ _ _ _ _ (Act.put _ (some 114) _) _
        simp only [Act.put, List.setIfInBounds_toArray, List.set_cons_zero, List.set_cons_succ]
        clear hSS
        refine wpAnyZ_one (i := 6) (by kernel_rfl) rfl rfl (fun K hK => ?_)
        go_simp
        refine (pop_any P w3 M q D s x HIN.out.mac).mono ?_
        rintro e w4 ⟨rfl, hm4, hk4⟩
        have hin4 := HIN.out.next hk4 hm4
        show K _ w4
        refine hK.out _ _ (.inr (HS.out w4 _ hin4)) ?_
        have HKB := Lib.hid (HKB.out.trans hk4); have HIN := Lib.hid hin4
        clear hK hk4 hm4 hin4
        refine wpAnyZ_one (i := 8) (by kernel_rfl) rfl rfl (fun K hK => ?_)
        go_simp
        refine (dyad_at w4 fn x x2 n1 e1 HX64.out HZ64.out HR.out).mono ?_
        rintro e w5 ⟨rfl, nd, hnd⟩
        have hin5 := HIN.out.out (Below.drewN w4 nd)
        have HKB := Lib.hid (HKB.out.drewN nd)
        rw [← hnd] at hin5 HKB
        show K _ _
        refine hK.out _ _ (.inr (HS.out w5 _ hin5)) ?_
        have HIN := Lib.hid hin5
        clear hK hnd hin5
        have hSS := HS.out w5 _ HIN.out
        refine wpAnyZ_take (i := 9) (v := ?_) rfl (by kernel_rfl) (by kernel_rfl) (by kernel_rfl) (fun _ _ _ h => h) (by kernel_rfl) (Or.inl ⟨by rfl, ?_⟩) (by assumption) ?_
        rotate_left
        · intro w' hSw
          try dsimp only at hSw
          try obtain ⟨hSw, hSw2⟩ := hSw
          go_simp
          try with_reducible rfl
        show wpAnyZ _ _ _ _ _ _ _ _ (Act.put _ (some 116) _) _
        simp only [Act.put, List.setIfInBounds_toArray, List.set_cons_zero, List.set_cons_succ]
        refine wpAnyZ_take (i := 10) (v := ?_) rfl (by kernel_rfl) (by kernel_rfl) (by kernel_rfl) (fun _ _ _ h => h) (by kernel_rfl) (Or.inl ⟨by rfl, ?_⟩) (by assumption) ?_
        rotate_left
        · intro w' hSw
          try dsimp only at hSw
          try obtain ⟨hSw, hSw2⟩ := hSw
          go_simp
          try with_reducible rfl
        show wpAnyZ _ _ _ _ _ _ _ _ (Act.put _ (some 117) _) _
        simp only [Act.put, List.setIfInBounds_toArray, List.set_cons_zero, List.set_cons_succ]
        clear hSS
        refine wpAnyZ_one (i := 11) (by kernel_rfl) rfl rfl (fun K hK => ?_)
        go_simp
        refine (must_any w5 n1 e1).mono ?_
        rintro e w6 ⟨rfl, rfl⟩
        cases hmu : mustR (n1, e1) with
        | error ee =>
          clear hK
          unfold endV panE
          dsimp only
          have hR := HINV.out.bad hlt (by rw [HO.out, HC.out, hmu]; rfl)
          exact ⟨rfl, by rw [hR]; exact ⟨rfl, HKB.out, fun v hv => by cases hv⟩⟩
        | ok y =>
          have hy : y = n1 := by
            unfold mustR at hmu
            split at hmu
            · cases hmu; rfl
            · cases hmu
          subst hy
          unfold endV
          dsimp only
          show K _ _
          refine hK.out _ _ (.inr (HS.out w6 _ HIN.out)) ?_
          clear hK
          refine wpAnyZ_one (i := 12) (by kernel_rfl) rfl rfl (fun K hK => ?_)
          go_simp
          refine (push_any P w6 M q D s y HIN.out.mac HN64.out (by simp at hs1; omega)).mono ?_
          rintro e w7 ⟨rfl, hm7, hk7⟩
          have hin7 := HIN.out.next hk7 hm7
          show K _ w7
          refine hK.out _ _ (.inr (HS.out w7 _ hin7)) ?_
          have HKB := Lib.hid (HKB.out.trans hk7); have HIN := Lib.hid hin7
          have hgo := HINV.out.step (s' := y :: s) hlt (by rw [HO.out, HC.out, hmu]; rfl) (by rw [HO.out]; simp [takesI]; omega)
          have HGO := Lib.hid hgo
          clear hK hk7 hm7 hin7 HS hmu hgo
          refine wpAnyZ_done (by kernel_rfl) ?_ _
          go_wp2_with fail
          go_roundw
          case rel => exact ⟨i + 1, y :: s, by go_num, HGO.out, HIN.out, HKB.out⟩
          case measure => simp [intOf]; omega
    · obtain rfl : i = l.length := by have := hinv.le; omega
      obtain ⟨x, rfl, rfl⟩ := hinv.done
      have hq := pop_any P wr M q D [] x hin.mac
      have HQ := Lib.hid hq; have HKB := Lib.hid hkb; have HX := Lib.hid (hin.mac.in64 x (by simp))
      clear hq hinv hin hkb HST H HOK
      go_wp2_with (go_at_call 125; refine HQ.out.mono ?_; rintro e w1 ⟨rfl, hm1, hk1⟩)
      go_ret
      exact ⟨rfl, HKB.out.trans hk1, fun v hv => by cases hv; exact ⟨hm1, HX.out⟩⟩
end Go.Proofs.Ytmlfeocdcjhhaaa

namespace Go.Proofs.Ytmlfeocdcjhhaaa
set_option maxRecDepth 100000
open Go.RowKit
set_option linter.unusedVariables false
set_option linter.unusedSimpArgs false
attribute [local go_sem ↓] Go.wp_at_zero Go.wp_at_succ

theorem push_row {w : World} {B : Nat} {G : Nat} {n : Int} {ops : Array Oper} {rest : List Oper} {o : Oper} {a : Act} {Q : Exit → Act → World → Prop} (hgd : o.guard = none) (s x : Operand) (ho : o.op = .call { callee := .builtin .append, args := #[s, x], argTypes := #[50, 50] })
    (v : Value) (xs : List Int) (hs : a.eval s = v) (hv : RowI B w v xs) (hx : a.eval x = .slice (some ⟨G, 0, none⟩) 1 1) (hG : w.heap[G]? = some (.cells #[.int .i64 n] 2 (0, 0)))
    (hl : xs.length ≤ 1000000) (hM : B ≤ w.heap.size)
    (h : ∀ a' c' w', RowI B w' (.slice a' (xs ++ [n]).length c') (xs ++ [n]) → w.grownBy w' v.ownBlock → Newer w v (.slice a' (xs ++ [n]).length c') → wpList Try.prog ops Q rest (a.put o.dst (.slice a' (xs ++ [n]).length c')) w') : wpList Try.prog ops Q (o :: rest) a w := by
  obtain ⟨i0, hi, hz0, hz1, hz2⟩ := info_parts (show (Try.prog.info? 2).map (fun i => (i.zero, i.size, i.bytes)) = some (some (.int .i64 0), 1, 8) by kernel_rfl)
  refine wpList_append_src _ hgd s x 50 ho B 2 i0 _ 1 8 Try.underlying50 hi hz0 hz1 hz2 rfl (by decide) v xs.length _ hs hv _ 1 _ hx (src_block hG 1) rfl (by intro z hz; cases List.mem_singleton.1 hz; rfl) (by unfold maxLen; omega) (by omega) hM ?_
  intro v' w' hown hg hnw
  obtain ⟨a', c', rfl⟩ : ∃ a' c', v' = .slice a' (xs ++ [n]).length c' := by
    obtain ⟨_, ⟨h, h0⟩ | ⟨g, cap, cur, hv, _⟩⟩ := hown
    · omega
    · exact ⟨_, _, by rw [hv, List.length_append]; rfl⟩
  exact h a' c' w' (by unfold RowI; simpa using hown) hg hnw
theorem row_form {B : Nat} {w : World} {v : Value} {xs : List Int} (h : RowI B w v xs) : ∃ a c, v = .slice a xs.length c := by
  obtain ⟨a, c, e, _⟩ := h.slice
  exact ⟨a, c, e⟩
theorem take_more {α : Type} {l : List α} {k : Nat} (h : k < l.length) : l.take (k + 1) = l.take k ++ [l[k]] := List.take_succ_eq_append_getElem h
set_option maxHeartbeats 16000000 in
theorem sides_any (wB w : World) (M : Nat) (q : MQ) (D : List Int) (v : Value) (hrow : w.heap[M]? = some (.cells (q.row D v) 82 (0, 0))) (hbel : Below wB.heap.size wB w) (bufs : List Buf) (hb : bufRep.Sl wB q.vb bufs) (k : Nat) (hk : k < bufs.length)
    (hd : IntsAt .i64 wB q.ad D) (hDl : D.length ≤ 6) (hsl : bufs[k].sides.length ≤ 4) (hok : ∀ p ∈ bufs[k].sides, (evalS p D).2 = 0) :
    Calls Try.prog 43 #[.pointer (some ⟨M, 0, none⟩), .int .i64 k] w fun x w' => ∃ a c, x = .returned (.slice a (sidesR D bufs[k]).length c) ∧ RowI w.heap.size w' (.slice a (sidesR D bufs[k]).length c) (sidesR D bufs[k]) ∧ Below w.heap.size w w' := by
  obtain ⟨ba, bc, hvb, hbl, hbc, -, hbe⟩ := hb
  obtain ⟨b, off, cs, rfl, ⟨v', rfl, hps, hin⟩, hc⟩ := hbe k hk
  have z0 := hc 0 _ rfl
  simp only [show bufRep.n = 2 from rfl, Nat.add_zero] at z0
  obtain ⟨sa, sc, rfl, hsl1, hse⟩ := Rep.Sl.form hps
  obtain ⟨bu, hbu⟩ : ∃ bu, bufs[k] = bu := ⟨_, rfl⟩
  rw [hbu] at hsl hok hse z0 hsl1 ⊢
  have x1 : w.cell? ⟨M, 1, none⟩ = some (.slice (some ⟨b, off, none⟩) bufs.length bc) := by rw [cell_of_row w M 1 _ _ _ hrow, ← hvb]; rfl
  have x0 := keepCB hbel (Nat.le_refl _) z0
  obtain ⟨sl, hsn⟩ : ∃ n, bu.sides.length = n := ⟨_, rfl⟩
  rw [hsn] at x0 hsl
  obtain ⟨bl, hbn⟩ : ∃ n, bufs.length = n := ⟨_, rfl⟩
  rw [hbn] at x1 hk hbl
  have HSN := Lib.hid hsn; have HSE := Lib.hid hse; have HROW := Lib.hid hrow; have HBEL := Lib.hid hbel; have HOK := Lib.hid hok; have HD := Lib.hid hd
  clear hsn hse hrow hbel hok hd hc hps hbe hbn hbu z0 hvb hsl1
  have hlen : (sidesR D bu).length = sl := by unfold sidesR; rw [List.length_map, HSN.out]
  rw [hlen]
  have HLEN := Lib.hid hlen
  clear hlen
  go_enter Try.func43, Try.ntmps43
  go_wp2_with fail
  go_loopw [5, 18] (fun v i wr => ∃ k : Nat, i = .int .i64 k ∧ k ≤ sl ∧ RowI w.heap.size wr v ((sidesR D bu).take k) ∧ Below w.heap.size w wr) (fun _ i _ => sl - (intOf i).toNat)
  case atStart => exact ⟨0, rfl, Nat.zero_le _, RowI.nil _ _, Below.refl _ _⟩
  case round =>
    obtain ⟨j, rfl, hj, hrow, hbw⟩ := hrel
    by_cases hlt : j < sl
    · have hjl : j < bu.sides.length := by have := HSN.out; omega
      obtain ⟨b2, off2, cs2, rfl, ⟨v2, rfl, hp⟩, hc2⟩ := (HSE.out.below polyRep (HBEL.out.trans (hbw.mono HBEL.out.size)) (Nat.le_refl _)) j hjl
      have y0 := hc2 0 _ rfl
      simp only [show polyRep.n = 1 from rfl, Nat.add_zero, Nat.mul_one] at y0
      obtain ⟨pa, pc, rfl, hpl, hpe⟩ := Rep.Sl.form hp
      have hokk := HOK.out _ (List.getElem_mem hjl)
      have hv := rval_any wr M q D _ (block_below HROW.out hbw) pa pc _ 102 hpe hpl (HD.out.below (HBEL.out.trans (hbw.mono HBEL.out.size)) (Nat.le_refl _)) (by omega)
      unfold valR at hv
      rw [if_pos hokk] at hv
      unfold endV at hv
      dsimp only at hv
      have htk : (sidesR D bu).take (j + 1) = (sidesR D bu).take j ++ [(evalS bu.sides[j] D).1] := by
        rw [take_more (by rw [HLEN.out]; exact hlt)]
        simp only [sidesR, List.getElem_map]
      obtain ⟨x, hx⟩ : ∃ x, (evalS bu.sides[j] D).1 = x := ⟨_, rfl⟩
      obtain ⟨pp, hpp⟩ : ∃ pp, bu.sides[j] = pp := ⟨_, rfl⟩
      rw [hx] at hv htk
      rw [hpp] at hv y0
      obtain ⟨pn, hpn⟩ : ∃ pn, pp.length = pn := ⟨_, rfl⟩
      rw [hpn] at hv y0
      obtain ⟨row, hrw⟩ : ∃ row, (sidesR D bu).take j = row := ⟨_, rfl⟩
      rw [hrw] at hrow htk
      obtain ⟨ra, rc, rfl⟩ := row_form hrow
      have hrl : row.length ≤ 4 := by rw [← hrw, List.length_take]; omega
      have HV := Lib.hid hv; have HTK := Lib.hid htk; have HR := Lib.hid hrow; have HBW := Lib.hid hbw; have HRL := Lib.hid hrl
      clear hv htk hrow hbw hp hpe hpl hc2 hokk hx hpp hpn hrw hrl
      go_wp2_with (first | (go_at_call 77; refine HV.out.mono ?_; rintro e w1 ⟨rfl, hb1⟩) | (at_builtin; refine push_row rfl _ _ rfl _ row rfl (by have := HR.out; exact World.ownsRow.alloc (own_keep this (KeepTy.below hb1)) _) rfl (World.alloc_heap_new _ _) (by have := HRL.out; omega) (by have := HBW.out.size; have := hb1.size; simp; omega) ?_; intro a' c' w' hr' hg' _))
      go_roundw
      case rel => exact ⟨j + 1, by go_num, by omega, by rw [HTK.out]; simpa using hr', (((HBW.out.trans (hb1.mono HBW.out.size)).alloc (by have := HBW.out.size; have := hb1.size; omega) _).grown hg' (by have := HBW.out.size; have := hb1.size; simp; omega) (fun g hg => by
        have := (World.ownsRow.lt HR.out g hg).1; exact this))⟩
      case measure => simp [intOf]; omega
    · obtain rfl : j = sl := by omega
      rw [List.take_of_length_le (by rw [HLEN.out]; exact Nat.le_refl _)] at hrow
      obtain ⟨ra, rc, rfl⟩ := row_form hrow
      rw [HLEN.out] at hrow ⊢
      have HR := Lib.hid hrow; have HBW := Lib.hid hbw
      clear hrow hbw
      go_wp2_with fail
      go_ret
      exact ⟨_, _, rfl, HR.out, HBW.out⟩
set_option maxHeartbeats 4000000 in
theorem fold_any (w : World) (s : Stp) (v0 v1 v2 : Value) : Calls Try.prog 75 #[.agg #[.int .i64 s.how, .int .i64 s.buf, v0, v1, .int .u8 s.fn, v2]] w fun x w' => x = .returned (.int .i64 (if s.how = 2 then 1 else 0)) ∧ Below w.heap.size w w' := by
  obtain ⟨how, buf, p, l, fn, o⟩ := s
  dsimp only
  by_cases h : how = 2
  · subst h
    go_enter Try.func75, Try.ntmps75
    go_wp2_with fail
    go_ret
    exact ⟨rfl, (Below.refl _ _).alloc (Nat.le_refl _) _⟩
  · have hI : (how == 2) = false := by simpa using h
    rw [if_neg h]
    clear h
    go_enter Try.func75, Try.ntmps75
    go_wp2_with fail
    go_ret
    exact ⟨rfl, (Below.refl _ _).alloc (Nat.le_refl _) _⟩
end Go.Proofs.Ytmlfeocdcjhhaaa
