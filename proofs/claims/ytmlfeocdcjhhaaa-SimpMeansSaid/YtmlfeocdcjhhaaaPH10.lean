import Derived.Test.YtmlfeocdcjhhaaaPH6
import Derived.Test.YtmlfeocdcjhhaaaPH8
import Derived.Test.YtmlfeocdcjhhaaaPH4
import Derived.Test.YtmlfeocdcjhhaaaPH1
namespace Go.Proofs.Ytmlfeocdcjhhaaa
set_option maxRecDepth 100000
open Go.RowKit Go.ChangeShapes Go.WideShapes Go.Deep
set_option linter.unusedVariables false
set_option linter.unusedSimpArgs false

structure Bd where
  hi : Nat
  ok : Nat → Prop
  le : ∀ b, hi ≤ b → ok b
instance : Coe Bd Nat := ⟨Bd.hi⟩
def b0 (n : Nat) : Bd := ⟨n, fun _ => True, fun _ _ => trivial⟩
theorem Bd.low {B : Bd} {n : Nat} (h : B.hi ≤ n) : B.hi ≤ n := h
def OkB (B : Bd) (t : TypeId) (w : World) (v : Value) : Prop := ∀ b off n c, v = .slice (some ⟨b, off, none⟩) n c → 0 < n → B.ok b ∧ (b < B.hi ∨ off = 0 ∧ ∃ cur, w.heap[b]? = some (Obj.cells cur t (0, 0)))
theorem OkB.keep {B : Bd} {t : TypeId} {w w' : World} {v : Value} (h : OkB B t w v) (hk : KeepTy t w w') : OkB B t w' v := fun b off n c e h0 => ⟨(h b off n c e h0).1, (h b off n c e h0).2.imp id fun ⟨h0, cur, hg⟩ => ⟨h0, cur, hk b cur hg⟩⟩
theorem OkB.mono {B B' : Bd} {t : TypeId} {w : World} {v : Value} (h : OkB B t w v) (hB : B.hi ≤ B'.hi) (hL : ∀ b, B.ok b → B'.ok b) : OkB B' t w v := fun b off n c e h0 => ⟨hL _ (h b off n c e h0).1, (h b off n c e h0).2.imp (fun h => Nat.lt_of_lt_of_le h hB) id⟩
theorem OkB.nil (B : Bd) (t : TypeId) (w : World) (n c : Nat) : OkB B t w (.slice none n c) := fun b off n' c' e => by cases e
/-- its block has not turned -/
theorem OkB.block {B : Bd} {t : TypeId} {w w' : World} {v : Value} (h : OkB B t w v) (hB : Below B w w') (hk : KeepTy t w w') {b off n c : Nat} (e : v = .slice (some ⟨b, off, none⟩) n c) (h0 : 0 < n) : w'.heap[b]? = w.heap[b]? := by
  rcases (h b off n c e h0).2 with h | ⟨-, cur, h⟩
  · exact hB.block b h
  · rw [h]; exact hk b cur h
section
variable {α : Type} {R : Rep α}
theorem OkB.old {w : World} {v : Value} {xs : List α} (t : TypeId) (hn : 0 < R.n) (h : R.Sl w v xs) : OkB (b0 w.heap.size) t w v := fun b off n c e h0 => by
  obtain ⟨a, cap, e', _, _, _, hx⟩ := h
  rw [e] at e'
  simp only [Value.slice.injEq] at e'
  obtain ⟨ha, hl, _⟩ := e'
  obtain ⟨b', off', cs, e2, hat, hc⟩ := hx 0 (by omega)
  rw [← ha] at e2
  simp only [Option.some.injEq, Addr.mk.injEq] at e2
  have hl := R.len _ _ _ hat
  have h1 := hc 0 cs[0] (List.getElem?_eq_getElem (by omega))
  refine ⟨trivial, .inl ?_⟩
  rw [e2.1]
  exact World.block_lt_of_cell? w _ h1
/-- a slice whose block has not turned -/
theorem Sl_keep {B : Bd} {t : TypeId} {w w' : World} {v : Value} {xs : List α} (hR : ∀ cs x, R.At w cs x → R.At w' cs x) (h : R.Sl w v xs) (ho : OkB B t w v) (hB : Below B w w') (hk : KeepTy t w w') : R.Sl w' v xs := by
  obtain ⟨a, cap, e, h1, h2, h3, hx⟩ := h
  refine ⟨a, cap, e, h1, h2, h3, fun i hi => ?_⟩
  obtain ⟨b, off, cs, e2, hat, hc⟩ := hx i hi
  subst e2
  have hb := ho.block hB hk e (by omega)
  exact ⟨b, off, cs, rfl, hR _ _ hat, fun j u hj => (World.cell?_of_block (w := w) (a := ⟨b, off + i * R.n + j, none⟩) hb).trans (hc j u hj)⟩
end
/-- a row of the call's own reads as its things -/
theorem Own_sl {α : Type} {R : Rep α} {t : TypeId} {w : World} {v : Value} {xs : List α} {G n : Nat} {cs : List Value} (B : Bd) (hG : B.hi ≤ G) (ho : w.ownsRow G t R.n v n cs) (h : R.Cs w cs xs) (hn : n = xs.length) : R.Sl w v xs ∧ OkB B t w v := by
  obtain ⟨a, c, e, hx⟩ := Rep.Cs.els (R := R) (w := w) ho h hn
  subst e
  have hform : n ≤ c ∧ c ≤ maxLen ∧ (a = none → c = 0) ∧ ∀ g off, a = some ⟨g, off, none⟩ → G ≤ g ∧ off = 0 ∧ ∃ cur, w.heap[g]? = some (.cells cur t (0, 0)) := by
    obtain ⟨_, ⟨hv, h0⟩ | ⟨g, cap, cur, hv, hg, hh, hnc, hcm, _, _⟩⟩ := id ho
    · simp only [Value.slice.injEq] at hv
      obtain ⟨rfl, rfl, rfl⟩ := hv
      exact ⟨Nat.le_refl _, Nat.zero_le _, (fun _ => rfl), (fun g off e => by cases e)⟩
    · simp only [Value.slice.injEq] at hv
      obtain ⟨rfl, _, rfl⟩ := hv
      exact ⟨hnc, hcm, (fun e => by cases e), (fun g' off e => by cases e; exact ⟨hg, rfl, cur, hh⟩)⟩
  obtain ⟨h1, h2, h3, h4⟩ := hform
  subst hn
  exact ⟨⟨a, c, rfl, h1, h2, h3, hx⟩, fun b off n' c' e h0 => by
    simp only [Value.slice.injEq] at e
    exact ⟨B.le _ (Nat.le_trans hG (h4 b off e.1).1), .inr (h4 b off e.1).2⟩⟩
/-- monomials -/
def MonS (B : Bd) (w : World) (v : Value) (p : List Mono) : Prop := monoRep.Sl w v p ∧ OkB B 47 w v
theorem MonS.keep {B : Bd} {w w' : World} {v : Value} {p : List Mono} (h : MonS B w v p) (hB : Below B w w') (hk : KeepTy 47 w w') : MonS B w' v p := ⟨Sl_keep (w := w) (w' := w') (R := monoRep) (fun _ _ h => h) h.1 h.2 hB hk, h.2.keep hk⟩
theorem MonS.below {B : Bd} {w w' : World} {v : Value} {p : List Mono} (h : MonS B w v p) (hb : Below w.heap.size w w') : MonS B w' v p := ⟨h.1.below _ hb (Nat.le_refl _), h.2.keep (KeepTy.below hb)⟩
theorem MonS.mono {B B' : Bd} {w : World} {v : Value} {p : List Mono} (h : MonS B w v p) (hB : B.hi ≤ B'.hi) (hL : ∀ b, B.ok b → B'.ok b) : MonS B' w v p := ⟨h.1, h.2.mono hB hL⟩
theorem MonS.of {w : World} {v : Value} {p : List Mono} (h : monoRep.Sl w v p) : MonS (b0 w.heap.size) w v p := ⟨h, OkB.old _ (by decide) h⟩
theorem MonS.nil (B : Bd) (w : World) : MonS B w (.slice none 0 0) [] := ⟨Rep.Sl.nil _ _, OkB.nil _ _ _ _ _⟩
theorem MonS.up {B : Bd} {n : Nat} {w : World} {v : Value} {p : List Mono} (h : MonS (b0 n) w v p) (hn : n ≤ B.hi) (h0 : (∀ b, B.ok b) ∨ p = []) : MonS B w v p := by
  refine ⟨h.1, fun b off m c e hm => ?_⟩
  rcases h0 with h0 | rfl
  · exact ⟨h0 _, (h.2 b off m c e hm).2.imp (fun h => Nat.lt_of_lt_of_le h hn) id⟩
  · obtain ⟨a, c', e2⟩ := h.1.form0
    rw [e] at e2
    simp only [Value.slice.injEq, List.length_nil] at e2
    omega
/-- an operation -/
def copO (B : Bd) : Rep Cop where
  n := 5
  At w cs o := ∃ v, cs = [.int .i64 o.how, .int .i64 o.k, .int .i64 o.n, v, .int .u8 o.fn] ∧ MonS B w v o.p ∧ I64 o.how ∧ I64 o.k ∧ I64 o.n ∧ U8 o.fn
  len := by rintro w cs b ⟨v, rfl, _⟩; rfl
  keep := by rintro w w' cs b ⟨v, e, h, h2⟩ hb; exact ⟨v, e, h.below hb, h2⟩
  one := by
    rintro w cs b ⟨v, rfl, h, _⟩ u hu
    obtain ⟨a, c, rfl⟩ := h.1.form0
    simp at hu
    rcases hu with rfl | rfl | rfl | rfl | rfl <;> rfl
theorem copO_keep {B : Bd} {w w' : World} (hB : Below B w w') (hk : KeepTy 47 w w') (cs : List Value) (o : Cop) (h : (copO B).At w cs o) : (copO B).At w' cs o := by
  obtain ⟨v, e, h, h2⟩ := h
  exact ⟨v, e, h.keep hB hk, h2⟩
theorem copO_mono {B B' : Bd} {w : World} (hB : B.hi ≤ B'.hi) (hL : ∀ b, B.ok b → B'.ok b) {cs : List Value} {o : Cop} (h : (copO B).At w cs o) : (copO B').At w cs o := by
  obtain ⟨v, e, h, h2⟩ := h
  exact ⟨v, e, h.mono hB hL, h2⟩
theorem copO_cop {B : Bd} {w : World} {cs : List Value} {o : Cop} (h : (copO B).At w cs o) : copRep.At w cs o := by
  obtain ⟨v, e, h, h2⟩ := h
  exact ⟨v, e, h.1, h2⟩
theorem copO_of {w : World} {cs : List Value} {o : Cop} (h : copRep.At w cs o) : (copO (b0 w.heap.size)).At w cs o := by
  obtain ⟨v, e, h, h2⟩ := h
  exact ⟨v, e, MonS.of h, h2⟩
/-- operations -/
def CopS (B : Bd) (w : World) (v : Value) (xs : List Cop) : Prop := (copO B).Sl w v xs ∧ OkB B 44 w v
section
variable {B B' : Bd} {w w' : World} {v : Value} {xs : List Cop}
theorem CopS.keep (h : CopS B w v xs) (hB : Below B w w') (k1 : KeepTy 47 w w') (k2 : KeepTy 44 w w') : CopS B w' v xs := ⟨Sl_keep (copO_keep hB k1) h.1 h.2 hB k2, h.2.keep k2⟩
theorem CopS.below (h : CopS B w v xs) (hb : Below w.heap.size w w') : CopS B w' v xs := ⟨h.1.below _ hb (Nat.le_refl _), h.2.keep (KeepTy.below hb)⟩
theorem CopS.mono (h : CopS B w v xs) (hB : B.hi ≤ B'.hi) (hL : ∀ b, B.ok b → B'.ok b) : CopS B' w v xs := by
  obtain ⟨⟨a, cap, e, h1, h2, h3, hx⟩, ho⟩ := h
  refine ⟨⟨a, cap, e, h1, h2, h3, fun i hi => ?_⟩, ho.mono hB hL⟩
  obtain ⟨b, off, cs, e2, hat, hc⟩ := hx i hi
  exact ⟨b, off, cs, e2, copO_mono hB hL hat, hc⟩
theorem CopS.cop (h : CopS B w v xs) : copRep.Sl w v xs := by
  obtain ⟨⟨a, cap, e, h1, h2, h3, hx⟩, _⟩ := h
  refine ⟨a, cap, e, h1, h2, h3, fun i hi => ?_⟩
  obtain ⟨b, off, cs, e2, hat, hc⟩ := hx i hi
  exact ⟨b, off, cs, e2, copO_cop hat, hc⟩
theorem CopS.of (h : copRep.Sl w v xs) : CopS (b0 w.heap.size) w v xs := by
  refine ⟨?_, OkB.old _ (by decide) h⟩
  obtain ⟨a, cap, e, h1, h2, h3, hx⟩ := h
  refine ⟨a, cap, e, h1, h2, h3, fun i hi => ?_⟩
  obtain ⟨b, off, cs, e2, hat, hc⟩ := hx i hi
  exact ⟨b, off, cs, e2, copO_of hat, hc⟩
theorem CopS.nil (B : Bd) (w : World) : CopS B w (.slice none 0 0) [] := ⟨Rep.Sl.nil _ _, OkB.nil _ _ _ _ _⟩
theorem CopS.form (h : CopS B w v xs) : ∃ a c, v = .slice a xs.length c ∧ xs.length ≤ 9223372036854775807 ∧ copRep.Els w a xs := h.cop.form
/-- a row of the call's own -/
theorem CopS.own {G n : Nat} {cs : List Value} (hG : B.hi ≤ G) (ho : w.ownsRow G 44 5 v n cs) (h : (copO B).Cs w cs xs) (hn : n = xs.length) : CopS B w v xs := Own_sl (R := copO B) B hG ho h hn
/-- as a source of an append -/
theorem CopS.src (h : CopS B w v xs) : ∃ cs, (copO B).Cs w cs xs ∧ Src w v xs.length cs := by
  obtain ⟨⟨a, cap, rfl, h1, h2, h3, hx⟩, _⟩ := h
  exact Rep.Els.cs (R := copO B) (show 0 < 5 by decide) hx rfl (fun e => by have := h3 e; omega)
end
theorem copO_keepCs {B : Bd} {w w' : World} (hB : Below B w w') (hk : KeepTy 47 w w') : ∀ {xs : List Cop} {cs : List Value}, (copO B).Cs w cs xs → (copO B).Cs w' cs xs
  | [], cs, h => h
  | x :: xs, cs, ⟨ds, r, e, h1, h3⟩ => ⟨ds, r, e, copO_keep hB hk _ _ h1, copO_keepCs hB hk h3⟩
/-- one slice of operations, as a cell -/
def copL (B : Bd) : Rep (List Cop) where
  n := 1
  At w cs xs := ∃ v, cs = [v] ∧ CopS B w v xs
  len := by rintro w cs x ⟨v, rfl, _⟩; rfl
  keep := by rintro w w' cs x ⟨v, rfl, h⟩ hb; exact ⟨v, rfl, h.below hb⟩
  one := by rintro w cs x ⟨v, rfl, ⟨a, cap, rfl, _⟩, _⟩ u hu; cases List.mem_singleton.1 hu; rfl
end Go.Proofs.Ytmlfeocdcjhhaaa

namespace Go.Proofs.Ytmlfeocdcjhhaaa
set_option maxRecDepth 100000
open Go.RowKit
set_option linter.unusedVariables false
set_option linter.unusedSimpArgs false
attribute [local go_sem ↓] Go.wp_at_zero Go.wp_at_succ

def RetC (B : Bd) (w : World) (xs : List Cop) (e : Ending) (w' : World) : Prop := (∃ v, e = .returned v ∧ CopS B w' v xs) ∧ Below w.heap.size w w'
/-- an operation's numbers are numbers -/
structure OkO (o : Cop) : Prop where
  h : I64 o.how
  k : I64 o.k
  n : I64 o.n
  f : U8 o.fn
theorem okO_num {n : Int} (h : I64 n) : OkO (numC n) := ⟨(by show I64 1; unfold I64; omega), (by show I64 0; unfold I64; omega), h, (by show U8 0; unfold U8; omega)⟩
theorem CopS.ok {B : Bd} {w : World} {v : Value} {xs : List Cop} (h : CopS B w v xs) : ∀ o ∈ xs, OkO o := fun o ho => by
  obtain ⟨⟨a, cap, e, _, _, _, hx⟩, _⟩ := h
  obtain ⟨i, hi, rfl⟩ := List.getElem_of_mem ho
  obtain ⟨b, off, cs, _, ⟨v, _, _, h1, h2, h3, h4⟩, _⟩ := hx i hi
  exact ⟨h1, h2, h3, h4⟩
/-- a list of one operation, newly made -/
theorem lit_one (W : World) (B : Bd) (G : Nat) (hL : B.hi ≤ G) (o : Cop) (pv : Value) (hG : W.heap.size = G) (hp : MonS B W pv o.p) (ho : OkO o) :
    CopS B (W.alloc (.cells #[.int .i64 o.how, .int .i64 o.k, .int .i64 o.n, pv, .int .u8 o.fn] 44)) (.slice (some ⟨G, 0, none⟩) 1 1) [o] := by
  subst hG
  have h1 := World.ownsRow_lit (e := 44) (size := 5) (base := W.heap.size) W #[.int .i64 o.how, .int .i64 o.k, .int .i64 o.n, pv, .int .u8 o.fn] 1 (Nat.le_refl _) (by unfold maxLen; omega) rfl
  refine CopS.own hL h1 (Rep.Cs.single ⟨pv, rfl, hp.below ((Below.refl _ _).alloc (Nat.le_refl _) _), ho.h, ho.k, ho.n, ho.f⟩) rfl
theorem numC_any (w : World) (B : Bd) (hL : B.hi ≤ w.heap.size) (n : Int) (hn : I64 n) : Calls Try.prog 91 #[.int .i64 n] w (RetC B w [numC n]) := by
  have HL := Lib.hid (lit_one w B w.heap.size hL (numC n) (.slice none 0 0) rfl (MonS.nil _ _) (okO_num hn))
  go_enter Try.func91, Try.ntmps91
  go_wp2
  go_ret
  exact ⟨⟨_, rfl, HL.out⟩, (Below.refl _ _).alloc (Nat.le_refl _) _⟩
theorem known_one (o : Cop) : knownC [o] = if o.how = 1 then some o.n else none := rfl
theorem known_len2 {l : List Cop} (h : l.length ≠ 1) : knownC l = none := by
  unfold knownC
  split
  · simp at h
  · rfl
/-- the cells of an operation in a list -/
theorem els_cop {w : World} {a : Option Addr} {l : List Cop} (h : copRep.Els w a l) {k : Nat} (hk : k < l.length) : ∃ b off pa pc, a = some ⟨b, off, none⟩ ∧ w.cell? ⟨b, off + k * 5, none⟩ = some (.int .i64 l[k].how) ∧ w.cell? ⟨b, off + k * 5 + 1, none⟩ = some (.int .i64 l[k].k) ∧
    w.cell? ⟨b, off + k * 5 + 2, none⟩ = some (.int .i64 l[k].n) ∧ w.cell? ⟨b, off + k * 5 + 3, none⟩ = some (.slice pa l[k].p.length pc) ∧ w.cell? ⟨b, off + k * 5 + 4, none⟩ = some (.int .u8 l[k].fn) ∧ monoRep.Els w pa l[k].p ∧ l[k].p.length ≤ 9223372036854775807 := by
  obtain ⟨b, off, cs, rfl, ⟨v, rfl, hs, -⟩, hc⟩ := h k hk
  obtain ⟨pa, pc, rfl, hpl, hpe⟩ := Rep.Sl.form hs
  exact ⟨b, off, pa, pc, rfl, hc 0 _ rfl, hc 1 _ rfl, hc 2 _ rfl, hc 3 _ rfl, hc 4 _ rfl, hpe, hpl⟩
theorem known_any (w : World) (a : Option Addr) (c : Nat) (l : List Cop) (h : copRep.Els w a l) (hm : l.length ≤ 9223372036854775807) :
    Calls Try.prog 93 #[.slice a l.length c] w fun e w' => e = .returned (.tuple #[.int .i64 ((knownC l).getD 0), .bool (knownC l).isSome]) ∧ Below w.heap.size w w' := by
  by_cases hl : l.length = 1
  · obtain ⟨o, rfl⟩ := List.length_eq_one_iff.1 hl
    obtain ⟨b, off, pa, pc, rfl, x0, x1, x2, x3, x4, -, -⟩ := els_cop h (k := 0) (by simp)
    simp only [Nat.zero_mul, Nat.add_zero, List.getElem_cons_zero] at x0 x1 x2 x3 x4
    have hk := Lib.hid (known_one o)
    have e1 : [o].length = 1 := rfl
    rw [e1]
    by_cases hh : o.how = 1
    · rw [hh] at x0
      rw [hk.out, if_pos hh]
      clear h hm hl hk hh
      go_enter Try.func93, Try.ntmps93
      go_wp2
      go_ret2
      exact ⟨rfl, Below.refl _ _⟩
    · have hh' : (o.how != 1) = true := by simpa using hh
      rw [hk.out, if_neg hh]
      clear h hm hl hk hh
      go_enter Try.func93, Try.ntmps93
      go_wp2
      go_ret2
      exact ⟨rfl, Below.refl _ _⟩
  · rw [known_len2 hl]
    have hl' : ((l.length : Int) != 1) = true := by rw [bne_iff_ne]; omega
    clear h hl
    go_enter Try.func93, Try.ntmps93
    go_wp2
    go_ret2
    exact ⟨rfl, Below.refl _ _⟩
theorem only_any (w : World) (a : Option Addr) (c : Nat) (l : List Cop) (n : Int) (h : copRep.Els w a l) (hm : l.length ≤ 9223372036854775807) :
    Calls Try.prog 95 #[.slice a l.length c, .int .i64 n] w fun e w' => e = .returned (.bool (onlyC l n)) ∧ Below w.heap.size w w' := by
  have hq := known_any w a c l h hm
  have ho : onlyC l n = (knownC l == some n) := rfl
  generalize knownC l = k at hq ho
  rw [ho]
  have HQ := Lib.hid hq
  clear h hm hq ho
  cases k with
  | none =>
    go_enter Try.func95, Try.ntmps95
    go_wp2_with fail
    refine HQ.out.mono ?_
    rintro e w1 ⟨rfl, hb⟩
    go_wp2_with fail
    go_ret
    exact ⟨rfl, hb⟩
  | some m =>
    go_enter Try.func95, Try.ntmps95
    go_wp2_with fail
    refine HQ.out.mono ?_
    rintro e w1 ⟨rfl, hb⟩
    go_wp2_with fail
    go_ret
    exact ⟨ret_bool (by simp), hb⟩
theorem reach_any (w : World) (o : Cop) (pa : Option Addr) (pl pc : Nat) : Calls Try.prog 134 #[.agg #[.int .i64 o.how, .int .i64 o.k, .int .i64 o.n, .slice pa pl pc, .int .u8 o.fn]] w fun e w' => e = .returned (.bool (reachC o)) ∧ Below w.heap.size w w' := by
  have hr : reachC o = (o.how == 2 || o.how == 4) := rfl
  rw [hr]
  by_cases h2 : o.how = 2
  · rw [h2]
    go_enter Try.func134, Try.ntmps134
    go_wp2
    go_ret
    exact ⟨rfl, (Below.refl _ _).alloc (Nat.le_refl _) _⟩
  · have h2' : (o.how == 2) = false := by simpa using h2
    clear hr
    go_enter Try.func134, Try.ntmps134
    go_wp2
    go_ret
    exact ⟨ret_bool (by rw [h2']; simp), (Below.refl _ _).alloc (Nat.le_refl _) _⟩
set_option maxHeartbeats 4000000 in
theorem indexFuncH (w : World) (a : Option Addr) (cap : Nat) (xs : List Cop) (p : Cop → Bool) (hm : xs.length ≤ maxLen) (h : copRep.Els w a xs)
    (hp : ∀ i, (hi : i < xs.length) → ∀ w' pa pc, Below w.heap.size w w' → monoRep.Els w' pa xs[i].p → xs[i].p.length ≤ 9223372036854775807 →
      Calls Try.prog 134 #[.agg #[.int .i64 xs[i].how, .int .i64 xs[i].k, .int .i64 xs[i].n, .slice pa xs[i].p.length pc, .int .u8 xs[i].fn]] w' fun e w'' => e = .returned (.bool (p xs[i])) ∧ Below w'.heap.size w' w'') :
    Calls Try.prog 52 #[.slice a xs.length cap, .func (.func 134) #[] #[]] w fun e w' => e = .returned (.int .i64 (firstO p 0 xs)) ∧ Below w.heap.size w w' := by
  unfold maxLen at hm
  have HI := Lib.hid h; have HP := Lib.hid hp; clear h hp
  go_enter Try.func52, Try.ntmps52
  go_wp2
  go_loopw [8] (fun i wr => ∃ k : Nat, k ≤ xs.length ∧ i = .int .i64 k ∧ firstO p 0 xs = firstO p k (xs.drop k) ∧ Below w.heap.size w wr) (fun i _ => xs.length - (intOf i).toNat)
  case atStart => exact ⟨0, Nat.zero_le _, rfl, rfl, Below.refl _ _⟩
  case round =>
    obtain ⟨k, hk, rfl, hr, hbel⟩ := hrel
    by_cases hlt : k < xs.length
    · rw [firstO_step hlt] at hr
      obtain ⟨b, off, cs, rfl, ⟨v, rfl, hs, hh, -⟩, hc⟩ := (HI.out.below copRep hbel (Nat.le_refl _)) k hlt
      have x0 := hc 0 _ rfl; have x1 := hc 1 _ rfl; have x2 := hc 2 _ rfl; have x3 := hc 3 _ rfl; have x4 := hc 4 _ rfl
      simp only [show copRep.n = 5 from rfl, Nat.add_zero] at x0 x1 x2 x3 x4
      obtain ⟨pa, pc, rfl, hpl, hpe⟩ := Rep.Sl.form hs
      have hq := HP.out k hlt wr pa pc hbel hpe hpl
      have Hr := Lib.hid hr; clear hr hs hpe hc
      cases hv : p xs[k] with
      | true =>
        rw [hv] at hq
        have HQ := Lib.hid hq; have Hv := Lib.hid hv; clear hq hv
        go_wp2_with (refine HQ.out.mono ?_; rintro e w' ⟨rfl, hb1⟩)
        go_ret
        exact ⟨ret_int (by rw [Hr.out, if_pos Hv.out]), bNext hb1 hbel⟩
      | false =>
        rw [hv] at hq
        have HQ := Lib.hid hq; have Hv := Lib.hid hv; clear hq hv
        go_wp2_with (refine HQ.out.mono ?_; rintro e w' ⟨rfl, hb1⟩)
        go_roundw
        case rel => exact ⟨k + 1, by omega, by go_num, by rw [Hr.out, if_neg (by rw [Hv.out]; simp)], bNext hb1 hbel⟩
        case measure => simp [intOf]; omega
    · have Hr := Lib.hid hr; clear hr
      go_wp2
      go_ret
      exact ⟨ret_int (by rw [Hr.out, List.drop_eq_nil_of_le (by omega)]; rfl), hbel⟩

theorem containsFuncH (w : World) (a : Option Addr) (cap : Nat) (xs : List Cop) (p : Cop → Bool) (hm : xs.length ≤ maxLen) (h : copRep.Els w a xs)
    (hp : ∀ i, (hi : i < xs.length) → ∀ w' pa pc, Below w.heap.size w w' → monoRep.Els w' pa xs[i].p → xs[i].p.length ≤ 9223372036854775807 →
      Calls Try.prog 134 #[.agg #[.int .i64 xs[i].how, .int .i64 xs[i].k, .int .i64 xs[i].n, .slice pa xs[i].p.length pc, .int .u8 xs[i].fn]] w' fun e w'' => e = .returned (.bool (p xs[i])) ∧ Below w'.heap.size w' w'') :
    Calls Try.prog 25 #[.slice a xs.length cap, .func (.func 134) #[] #[]] w fun e w' => e = .returned (.bool (xs.any p)) ∧ Below w.heap.size w w' := by
  have hq := Lib.hid (indexFuncH w a cap xs p hm h hp)
  clear hp h
  go_enter Try.func25, Try.ntmps25
  go_wp2_with (go_at_call 52; refine hq.out.mono ?_; rintro e w' ⟨rfl, hb1⟩)
  go_ret
  exact ⟨ret_bool (firstO_nonneg _ _), hb1⟩

theorem harmless_any (w : World) (a : Option Addr) (c : Nat) (l : List Cop) (h : copRep.Els w a l) (hm : l.length ≤ maxLen) :
    Calls Try.prog 96 #[.slice a l.length c] w fun e w' => e = .returned (.bool (harmC l)) ∧ Below w.heap.size w w' := by
  have hq := ctotal_any w a c l h hm
  have hq2 := fun w1 (hb : Below w.heap.size w w1) => containsFuncH w1 a c l reachC hm (h.below copRep hb (Nat.le_refl _)) (fun i hi w' pa pc _ _ _ => reach_any w' l[i] pa l[i].p.length pc)
  have hr : harmC l = (totS l && !l.any reachC) := rfl
  rw [hr]
  generalize totS l = t at hq
  generalize l.any reachC = r at hq2
  have HQ := Lib.hid hq; have HQ2 := Lib.hid hq2
  unfold maxLen at hm
  clear hq hq2 h hr
  cases t with
  | false =>
    go_enter Try.func96, Try.ntmps96
    go_wp2_with fail
    refine HQ.out.mono ?_
    rintro e w1 ⟨rfl, hb⟩
    go_wp2_with fail
    go_ret
    exact ⟨rfl, hb⟩
  | true =>
    go_enter Try.func96, Try.ntmps96
    go_wp2_with fail
    refine HQ.out.mono ?_
    rintro e w1 ⟨rfl, hb⟩
    have HB := Lib.hid hb
    have HQ3 := Lib.hid (HQ2.out w1 hb)
    clear hb
    go_wp2_with fail
    refine HQ3.out.mono ?_
    rintro e w2 ⟨rfl, hb⟩
    go_wp2_with fail
    go_ret
    exact ⟨ret_bool (by simp), bNext hb HB.out⟩
end Go.Proofs.Ytmlfeocdcjhhaaa
