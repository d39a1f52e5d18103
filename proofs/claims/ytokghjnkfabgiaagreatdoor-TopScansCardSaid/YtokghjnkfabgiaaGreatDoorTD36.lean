import Derived.Test.YtokghjnkfabgiaaGreatDoorTD35
import Derived.WalkSmall
set_option linter.unusedVariables false
set_option linter.unusedSimpArgs false
set_option maxRecDepth 100000
namespace Go.Proofs.YtokghjnkfabgiaaGreatDoor
open Go.RowKit Go.Lib
attribute [local go_sem] str_size str_get str_toList

def itmC (i : Itm) (a : Int) : Array Value := #[.int .i64 i.how, .int .i64 a, .int .u8 i.fn, .string ⟨#[]⟩, .slice none 0 0]
def Bare (i : Itm) : Prop := i.name = [] ∧ i.nums = []
theorem itm_bare {w : World} {i : Itm} (h : Bare i) (a : Int) : itmR.At w (itmC i a).toList i := by
 obtain ⟨how, fn, name, nums⟩ := i
 obtain ⟨h1, h2⟩ := h
 dsimp only at h1 h2
 subst h1 h2
 exact ⟨a, _, rfl, RowI.nil _ _⟩
structure OutI (M Bo : Nat) (w : World) (ov : Value) (out : List Itm) : Prop where
 box : w.heap[Bo]? = some (.cells #[ov] 65 (0, 0))
 row : RowG itmR M 121 w ov out
theorem OutI.next {M Bo : Nat} {w w' : World} {ov : Value} {out : List Itm} (h : OutI M Bo w ov out) (hb : Below w.heap.size w w') : OutI M Bo w' ov out := ⟨block_below h.box hb, h.row.next hb⟩
theorem OutI.keep {M Bo : Nat} {w w' : World} {ov : Value} {out : List Itm} (h : OutI M Bo w ov out) (hk : ∀ u, u = 65 ∨ u = 121 ∨ u = 2 → KeepTy u w w') : OutI M Bo w' ov out :=
 ⟨hk _ (.inl rfl) _ _ h.box, h.row.same (fun cs x ⟨a, v, e, h⟩ => ⟨a, v, e, h.keepTy (hk _ (.inr (.inr rfl)))⟩) (hk _ (.inr (.inl rfl)))⟩
def Moved (w : World) (v v' : Value) : Prop := v'.ownBlock = v.ownBlock ∨ ∃ k, v'.ownBlock = some k ∧ w.heap.size ≤ k
theorem ownBlock_ty {α : Type} {R : Rep α} {M : Nat} {t : TypeId} {w : World} {v : Value} {xs : List α} (h : RowG R M t w v xs) {g : Nat} (e : v.ownBlock = some g) : ∃ cur, w.heap[g]? = some (.cells cur t (0, 0)) := by
 obtain ⟨cs, h1, h2⟩ := h
 exact own_typed h1 e
theorem ownBlock_lt {α : Type} {R : Rep α} {M : Nat} {t : TypeId} {w : World} {v : Value} {xs : List α} (h : RowG R M t w v xs) {g : Nat} (e : v.ownBlock = some g) : M ≤ g ∧ g < w.heap.size := by
 obtain ⟨cs, h1, h2⟩ := h
 exact World.ownsRow.lt h1 g e
set_option maxHeartbeats 4000000 in
theorem thk_any {M Bo b : Nat} {w : World} {ov : Value} {out : List Itm} {i : Itm} {a : Int} (h : OutI M Bo w ov out) (hM : M ≤ Bo) (hi : Bare i) (hb : w.heap[b]? = some (.cells (itmC i a) 121 (0, 0))) (hl : out.length ≤ 70000) :
  Calls Tryz.prog 66 #[.pointer (some ⟨Bo, 0, none⟩), .pointer (some ⟨b, 0, none⟩)] w fun r w' => r = .returned (.tuple #[]) ∧ ∃ ov', OutI M Bo w' ov' (out ++ [i]) ∧ KB (fun g => g = Bo ∨ ov.ownBlock = some g) w w' ∧ Moved w ov ov' := by
 obtain ⟨hbx, hrow⟩ := h
 obtain ⟨oa, oc, rfl⟩ := hrow.form
 have c0 := cell_of_row w Bo 0 _ _ _ hbx
 have hlt := block_lt hbx
 have h1 : (w.alloc (.cells (itmC i a) 121)).heap[Bo]? = some (.cells #[.slice oa out.length oc] 65 (0, 0)) := block_alloc hbx _
 have hrow1 := hrow.alloc (.cells (itmC i a) 121)
 have hG : (w.alloc (.cells (itmC i a) 121)).heap[w.heap.size]? = some (.cells (itmC i a) 121 (0, 0)) := World.alloc_heap_new _ _
 have hs : (w.alloc (.cells (itmC i a) 121)).heap.size = w.heap.size + 1 := by simp
 have hMw : M ≤ (w.alloc (.cells (itmC i a) 121)).heap.size := by omega
 have hA : itmR.At (w.alloc (.cells (itmC i a) 121)) (itmC i a).toList i := itm_bare hi a
 have hown : ∀ g, (Value.slice oa out.length oc).ownBlock = some g → g < w.heap.size ∧ g ≠ Bo := fun g hg => by
  refine ⟨(ownBlock_lt hrow hg).2, fun e => ?_⟩
  obtain ⟨cur, hc⟩ := ownBlock_ty hrow hg
  rw [e, hbx] at hc
  exact absurd (congrArg (fun o => match o with | some (Obj.cells _ t _) => t | _ => 0) hc) (show ¬ 65 = 121 by decide)
 unfold itmC at *
 obtain ⟨how, fn, name, nums⟩ := i
 dsimp only at *
 have HB := Lib.hid hb; have H1 := Lib.hid h1; have HR1 := Lib.hid hrow1; have HG := Lib.hid hG; have HA := Lib.hid hA; have HM := Lib.hid hMw; have HW := Lib.hid hown
 clear hb h1 hrow1 hG hA hbx hrow hMw hi hs hown
 go_enter Tryz.func66, Tryz.ntmps66
 go_wp2_with (first
  | ((with_reducible show wpList _ _ _ ({ dst := some _, op := Op.load 121 (.tmp 1), type := _, pos := _, after := _, guard := _ } :: _) _ _); (refine wpList_loadW (by rfl) 121 _ rfl b rfl _ _ (0, 0) _ HB.out Tryz.underlying121 rfl (by kernel_rfl) ?_))
  | (at_builtin; (refine wpList_pushN rfl _ _ 65 121 rfl (.agg #[.int .i64 0, .int .i64 0, .int .u8 0, .string ⟨#[]⟩, .slice none 0 0]) 64 Tryz.underlying65 (by kernel_rfl) (by rfl) (show 0 < 5 by decide) M M (w.heap.size) (keep_itm M) _ out _ _ rfl HR1.out rfl HG.out HA.out (by unfold maxLen; omega) (by omega) (Nat.le_refl _) HM.out ?_); intro v' wz hrz hbz hgz hkz hnz; obtain ⟨za, zc, hz⟩ := hrz.form; rw [List.length_append, List.length_singleton] at hz; subst hz; have c1 := cell_of_row wz Bo 0 _ _ _ (hkz 65 (by decide) _ _ H1.out); have f1 := frozen_of_row wz Bo 0 _ _ (hkz 65 (by decide) _ _ H1.out); have HXZ := Lib.hid (hkz 65 (by decide) _ _ H1.out); have HRZ := Lib.hid hrz; have HGZ := Lib.hid hgz; have HNZ := Lib.hid hnz; clear hrz hbz hgz hkz hnz))
 go_end0
 have hk : KB (fun g => g = Bo ∨ (Value.slice oa out.length oc).ownBlock = some g) w wz := ((KB.refl (fun g => g = Bo ∨ (Value.slice oa out.length oc).ownBlock = some g) w).alloc _).grown HGZ.out (fun k hk _ => .inr hk)
 refine ⟨rfl, _, ⟨set_block HXZ.out, HRZ.out.same (fun cs x ⟨a, v, e, h⟩ => ⟨a, v, e, h.keepTy (KeepTy.setCell (p := ⟨Bo, 0, none⟩) (NotTy.of HXZ.out (show 65 ≠ 2 by decide)) _)⟩) (KeepTy.setCell (p := ⟨Bo, 0, none⟩) (NotTy.of HXZ.out (show 65 ≠ 121 by decide)) _)⟩, hk.setCell (p := ⟨Bo, 0, none⟩) (fun _ => .inl rfl) _, ?_⟩
 rcases HNZ.out with h | ⟨k, h, h2⟩
 ·exact .inl h
 ·exact .inr ⟨k, h, by simp at h2; omega⟩
end Go.Proofs.YtokghjnkfabgiaaGreatDoor

namespace Go.Proofs.YtokghjnkfabgiaaGreatDoor
open Go.RowKit Go.Lib
attribute [local go_sem] str_size str_get str_toList

theorem run_neq_nilFunc (w : World) : (binOp .neq 1 .nilFunc .nilFunc).run Tryz.prog w = .ok (.bool false) w := by
 have h : ∀ d : Nat, (Op.equalIn (d + 1) 1 .nilFunc .nilFunc).run Tryz.prog w = .ok true w := fun d => by
  simp [Op.equalIn, run_underlying Tryz.underlying1]
 simp only [binOp]
 simp [Op.equal, Op.maxDepth, h 9999]
theorem run_neq_func (w : World) (a : Fn) (b : Array Value) (c : Array Value) : (binOp .neq 1 (.func a b c) .nilFunc).run Tryz.prog w = .ok (.bool true) w := by
 have h : ∀ d : Nat, (Op.equalIn (d + 1) 1 (.func a b c) .nilFunc).run Tryz.prog w = .ok false w := fun d => by
  simp [Op.equalIn, run_underlying Tryz.underlying1]
 simp only [binOp]
 simp [Op.equal, Op.maxDepth, h 9999]
attribute [local go_sem] run_neq_nilFunc run_neq_func
def thkV (Bo b : Nat) : Value := .func (.func 66) #[] #[.pointer (some ⟨Bo, 0, none⟩), .pointer (some ⟨b, 0, none⟩)]
def Thk1 (Bo : Nat) (w : World) (ov v : Value) : Option Itm → Prop
 | none => v = .nilFunc
 | some i => ∃ b a, v = thkV Bo b ∧ Bare i ∧ ov.ownBlock ≠ some b ∧ w.heap[b]? = some (.cells (itmC i a) 121 (0, 0))
def Thk (Bo : Nat) (w : World) (ov : Value) : List Value → List (Option Itm) → Prop
 | [], [] => True
 | v :: vs, o :: r => Thk1 Bo w ov v o ∧ Thk Bo w ov vs r
 | _, _ => False
theorem Thk.keep {Bo : Nat} {w w' : World} {ov ov' : Value} (hk : ∀ b cs, ov.ownBlock ≠ some b → w.heap[b]? = some (.cells cs 121 (0, 0)) → ov'.ownBlock ≠ some b ∧ w'.heap[b]? = some (.cells cs 121 (0, 0))) :
  ∀ {vs : List Value} {r : List (Option Itm)}, Thk Bo w ov vs r → Thk Bo w' ov' vs r
 | [], [], h => h
 | v :: vs, none :: r, h => ⟨h.1, Thk.keep hk h.2⟩
 | v :: vs, some i :: r, ⟨⟨b, a, e, hi, h1, h2⟩, h3⟩ => ⟨⟨b, a, e, hi, (hk b _ h1 h2).1, (hk b _ h1 h2).2⟩, Thk.keep hk h3⟩
theorem Thk.len {Bo : Nat} {w : World} {ov : Value} : ∀ {vs : List Value} {r : List (Option Itm)}, Thk Bo w ov vs r → vs.length = r.length
 | [], [], h => rfl
 | v :: vs, o :: r, h => congrArg (· + 1) h.2.len
theorem Thk.one {Bo : Nat} {w : World} {ov : Value} : ∀ {vs : List Value} {r : List (Option Itm)}, Thk Bo w ov vs r → ∀ v ∈ vs, v.oneCell' = true
 | [], [], h, v, hv => by cases hv
 | u :: vs, none :: r, h, v, hv => by
  rcases List.mem_cons.1 hv with e | e
  ·rw [e, show u = .nilFunc from h.1]; rfl
  ·exact h.2.one v e
 | u :: vs, some i :: r, ⟨⟨b, a, e', _⟩, h3⟩, v, hv => by
  rcases List.mem_cons.1 hv with e | e
  ·rw [e, e']; rfl
  ·exact h3.one v e
structure TodoI (M Bo Bt : Nat) (w : World) (ov tv : Value) (cs : List Value) (todo : List (Option Itm)) : Prop where
 box : w.heap[Bt]? = some (.cells #[tv] 135 (0, 0))
 row : w.ownsRow M 1 1 tv todo.length cs
 thk : Thk Bo w ov cs.reverse todo
def FT (M Bo Bt : Nat) (w : World) (out : List Itm) (todo : List (Option Itm)) : Prop := ∃ ov tv cs, OutI M Bo w ov out ∧ TodoI M Bo Bt w ov tv cs todo
theorem FT.keep {M Bo Bt : Nat} {w w' : World} {out : List Itm} {todo : List (Option Itm)} (h : FT M Bo Bt w out todo) (hk : ∀ u, u = 65 ∨ u = 121 ∨ u = 2 ∨ u = 135 ∨ u = 1 → KeepTy u w w') : FT M Bo Bt w' out todo := by
 obtain ⟨ov, tv, cs, ho, hb, hr, ht⟩ := h
 refine ⟨ov, tv, cs, ho.keep (fun u hu => hk u (by rcases hu with h | h | h <;> simp [h])), hk _ (by simp) _ _ hb, own_keep hr (hk _ (by simp)), ht.keep fun b cs h1 h2 => ⟨h1, hk _ (by simp) _ _ h2⟩⟩
theorem FT.next {M Bo Bt : Nat} {w w' : World} {out : List Itm} {todo : List (Option Itm)} (h : FT M Bo Bt w out todo) (hb : Below w.heap.size w w') : FT M Bo Bt w' out todo := h.keep fun u _ => KeepTy.below hb
def sliceLen (v : Option Value) : Nat := match v with | some (.slice _ n _) => n | _ => 0
theorem todo_top {M Bo Bt : Nat} {w : World} {ov tv : Value} {cs : List Value} {o : Option Itm} {r : List (Option Itm)} (h : TodoI M Bo Bt w ov tv cs (o :: r)) :
  ∃ g cap v vs, tv = .slice (some ⟨g, 0, none⟩) (r.length + 1) cap ∧ r.length + 1 ≤ cap ∧ cap ≤ maxLen ∧ cs = vs ++ [v] ∧ vs.length = r.length ∧ w.cell? ⟨g, r.length, none⟩ = some v ∧ Thk1 Bo w ov v o ∧ Thk Bo w ov vs.reverse r ∧ w.ownsRow M 1 1 (.slice (some ⟨g, 0, none⟩) r.length cap) r.length vs := by
 obtain ⟨hb, hr, ht⟩ := h
 obtain ⟨v, vs, hc⟩ : ∃ v vs, cs.reverse = v :: vs := by
  cases hc : cs.reverse with
  | nil => rw [hc] at ht; exact ht.elim
  | cons v vs => exact ⟨v, vs, rfl⟩
 rw [hc] at ht
 have hcs : cs = vs.reverse ++ [v] := by rw [← List.reverse_reverse cs, hc]; simp
 have hvl : vs.reverse.length = r.length := by rw [List.length_reverse]; exact ht.2.len
 subst hcs
 obtain ⟨g, cap, rfl⟩ := Go.Joins.ownsRow_form hr (by simp)
 have hr' : w.ownsRow M 1 1 (.slice (some ⟨g, 0, none⟩) (r.length + 1) cap) (r.length + 1) (vs.reverse ++ [v]) := hr
 have hcap : r.length + 1 ≤ cap ∧ cap ≤ maxLen := by
  obtain ⟨_, ⟨h0, _⟩ | ⟨g', cap', cur, hv, _, _, h1, h2, _⟩⟩ := id hr'
  ·cases h0
  ·cases hv; exact ⟨h1, h2⟩
 have hx := World.ownsRow.cells (g := g) hr' rfl r.length v (by rw [List.getElem?_append_right (by omega), hvl]; simp)
 have e : (⟨g, 0, none⟩ : Addr).add r.length = ⟨g, r.length, none⟩ := by unfold Addr.add; split <;> simp_all
 rw [e] at hx
 exact ⟨g, cap, v, vs.reverse, rfl, hcap.1, hcap.2, rfl, hvl, hx, ht.1, by simpa using ht.2, ownsRow_pop (by omega) hr'⟩
set_option maxHeartbeats 8000000 in
theorem fin_any {M Bo Bt : Nat} {w : World} {out : List Itm} {todo : List (Option Itm)} (h : FT M Bo Bt w out todo) (hl : out.length + todo.length ≤ 70000) (hMo : M ≤ Bo) (hMt : M ≤ Bt) (hMw : M ≤ w.heap.size) :
  Calls Tryz.prog 63 #[.pointer (some ⟨Bt, 0, none⟩)] w fun r w' => r = .returned (.tuple #[]) ∧ FT M Bo Bt w' (finishP out todo).1 (finishP out todo).2 ∧ Below M w w' ∧ ∀ u, u ≠ 65 → u ≠ 121 → u ≠ 135 → KeepTy u w w' := by
 obtain ⟨F, hF⟩ : ∃ F, finishP out todo = F := ⟨_, rfl⟩
 rw [hF]
 have H := Lib.hid h; have HF := Lib.hid hF
 clear h hF
 go_enter Tryz.func63, Tryz.ntmps63
 go_wp2_with fail
 go_loopw [] (fun wr => ∃ out' todo', FT M Bo Bt wr out' todo' ∧ finishP out' todo' = F ∧ out'.length + todo'.length ≤ 70000 ∧ Below M w wr ∧ ∀ u, u ≠ 65 → u ≠ 121 → u ≠ 135 → KeepTy u w wr) (fun wr => sliceLen (wr.cell? ⟨Bt, 0, none⟩))
 case atStart => exact ⟨out, todo, H.out, HF.out, hl, Below.refl _ _, fun u _ _ _ => KeepTy.refl _ _⟩
 case round =>
  obtain ⟨out', todo', hft, hfin, hlen, hbel, hkeep⟩ := hrel
  have HB := Lib.hid hbel; have HK := Lib.hid hkeep
  clear hbel hkeep
  cases todo' with
  | nil =>
   obtain ⟨ov, tv, cs, ho, ht⟩ := id hft
   have hc0 := cell_of_row wr Bt 0 _ _ _ ht.box
   obtain ⟨a, c, rfl⟩ : ∃ a c, tv = .slice a 0 c := by
    obtain ⟨_, ⟨hv, _⟩ | ⟨g, cap, cur, hv, _⟩⟩ := ht.row
    ·exact ⟨_, _, hv⟩
    ·exact ⟨_, _, hv⟩
   have hR : F = (out', []) := by rw [← hfin]; cases out' <;> rfl
   have HFT := Lib.hid hft; have HR := Lib.hid hR
   clear ho ht hft hfin hR
   go_wp2_with fail
   go_end0
   exact ⟨rfl, by rw [HR.out]; exact HFT.out, HB.out, HK.out⟩
  | cons o r =>
   obtain ⟨ov, tv, cs, ho, ht⟩ := id hft
   have hbt := ht.box
   obtain ⟨g, cap, v, vs, rfl, hcap, hcm, rfl, hvl, hx, h1, hth, hrow⟩ := todo_top ht
   have hc0 := cell_of_row wr Bt 0 _ _ _ hbt
   cases o with
   | none =>
    have e : v = .nilFunc := h1
    subst e
    have hR : F = (out', none :: r) := by rw [← hfin]; cases out' <;> rfl
    have HFT := Lib.hid hft; have HR := Lib.hid hR
    clear ho ht hft hfin hR h1 hth hrow hbt
    have hlr : r.length ≤ 70000 := by simp at hlen; omega
    go_wp2_with fail
    go_end0
    exact ⟨rfl, by rw [HR.out]; exact HFT.out, HB.out, HK.out⟩
   | some i =>
    obtain ⟨b, a, rfl, hbare, hne, hbb⟩ := h1
    obtain ⟨oh, orow⟩ := id ho
    have hthk := thk_any ho hMo hbare hbb (by simp at hlen; omega)
    have hfin' : finishP (out' ++ [i]) r = F := by rw [← hfin]; rfl
    have hlen' : (out' ++ [i]).length + r.length ≤ 70000 := by simp at hlen ⊢; omega
    have hlr : r.length ≤ 70000 := by simp at hlen; omega
    have HTH := Lib.hid hthk; have HF' := Lib.hid hfin'
    clear hft hfin hlen hthk hfin'
    unfold thkV at hx
    go_wp2_with fail
    refine HTH.out.mono ?_
    rintro _ w1 ⟨rfl, ov', ho1, hk1, hmv⟩
    have hkt : ∀ u, u ≠ 65 → u ≠ 121 → KeepTy u wr w1 := fun u h1 h2 => KeepTy.kb hk1 fun g hg => hg.elim (fun e => e ▸ NotTy.of oh (Ne.symm h1)) (fun e => by obtain ⟨cur, hc⟩ := ownBlock_ty orow e; exact NotTy.of hc (Ne.symm h2))
    have hbt1 := hkt _ (by decide) (by decide) _ _ hbt
    have hc1 := cell_of_row w1 Bt 0 _ _ _ hbt1
    have hf1 := frozen_of_row w1 Bt 0 _ _ hbt1
    have hnt : ∀ u, u ≠ 135 → NotTy u w1 Bt := fun u hu => NotTy.of hbt1 (Ne.symm hu)
    have hks : ∀ u, u ≠ 135 → KeepTy u w1 (w1.setCell ⟨Bt, 0, none⟩ (.slice (some ⟨g, 0, none⟩) r.length cap)) := fun u hu => KeepTy.setCell (p := ⟨Bt, 0, none⟩) (hnt u hu) _
    have hrow1 := own_keep (own_keep hrow (hkt _ (by decide) (by decide))) (hks _ (by decide))
    have hft : FT M Bo Bt (w1.setCell ⟨Bt, 0, none⟩ (.slice (some ⟨g, 0, none⟩) r.length cap)) (out' ++ [i]) r := by
     refine ⟨ov', _, vs, ho1.keep (fun u hu => hks u (by rcases hu with h | h | h <;> rw [h] <;> decide)), set_block hbt1, hrow1, hth.keep fun b' cs' e1 e2 => ⟨?_, hks _ (by decide) _ _ ?_⟩⟩
     ·rcases hmv with e | ⟨k, e, hk⟩
      ·rw [e]; exact e1
      ·rw [e]; intro h; cases h; exact absurd (block_lt e2) (by omega)
     ·refine (hk1.block b' (block_lt e2) ?_).trans e2
      rintro (e | e)
      ·subst e; rw [oh] at e2; exact absurd (congrArg (fun o => match o with | some (Obj.cells _ t _) => t | _ => 0) e2) (show ¬ 65 = 121 by decide)
      ·exact e1 e
    have hbel : Below M w (w1.setCell ⟨Bt, 0, none⟩ (.slice (some ⟨g, 0, none⟩) r.length cap)) := by
     refine (HB.out.trans (hk1.below (Nat.le_trans hMw HB.out.size) fun g hg => ?_)).setCell (p := ⟨Bt, 0, none⟩) hMt _
     rcases hg with e | e
     ·rw [e]; exact hMo
     ·exact (ownBlock_lt orow e).1
    have hkk : ∀ u, u ≠ 65 → u ≠ 121 → u ≠ 135 → KeepTy u w (w1.setCell ⟨Bt, 0, none⟩ (.slice (some ⟨g, 0, none⟩) r.length cap)) := fun u h1 h2 h3 => ((HK.out u h1 h2 h3).trans (hkt u h1 h2)).trans (hks u h3)
    have HCZ := Lib.hid (cell_of_row _ Bt 0 _ _ _ (set_block (k := 0) (v := .slice (some ⟨g, 0, none⟩) r.length cap) hbt1))
    have HFT := Lib.hid hft; have HBL := Lib.hid hbel; have HKK := Lib.hid hkk
    clear hft hbel hkk hkt hks hnt hrow1 hth hrow ho ht orow oh hmv hk1 ho1 hbt hne hbb hvl HTH
    go_wp2_with fail
    go_roundw
    case rel => exact ⟨out' ++ [i], r, HFT.out, HF'.out, hlen', HBL.out, HKK.out⟩
    case measure =>
     rw [hc0, HCZ.out]
     exact Nat.lt_succ_self _
end Go.Proofs.YtokghjnkfabgiaaGreatDoor

namespace Go.Proofs.YtokghjnkfabgiaaGreatDoor
open Go.RowKit Go.Lib
attribute [local go_sem] str_size str_get str_toList run_neq_nilFunc run_neq_func

structure ES (W0 w0 : World) (L : Nat) (lv : Value) (toks : List (Tk × Nat)) (e : Int) (Bl Bo Bt : Nat) (w : World) (n : Nat) (out : List Itm) (todo : List (Option Itm)) : Prop where
 line : LineI W0 L lv toks e w n
 kb : KB (fun g => g = L) w0 w
 lb : w.heap[Bl]? = some (.cells #[.pointer (some ⟨L, 0, none⟩)] 60 (0, 0))
 hl : w0.heap.size ≤ Bl
 ho : w0.heap.size ≤ Bo
 ht : w0.heap.size ≤ Bt
 hL : L < w0.heap.size
 st : FT w0.heap.size Bo Bt w out todo
 cnt : out.length + todo.length ≤ n + 1
section
variable {W0 w0 w w' : World} {L Bl Bo Bt n : Nat} {lv : Value} {toks : List (Tk × Nat)} {e : Int} {out : List Itm} {todo : List (Option Itm)}
theorem ES.next (h : ES W0 w0 L lv toks e Bl Bo Bt w n out todo) (hb : Below w.heap.size w w') : ES W0 w0 L lv toks e Bl Bo Bt w' n out todo :=
 ⟨h.line.next hb, kbL_next h.kb hb, block_below h.lb hb, h.hl, h.ho, h.ht, h.hL, h.st.next hb, h.cnt⟩
theorem ES.alloc (h : ES W0 w0 L lv toks e Bl Bo Bt w n out todo) (o : Obj) : ES W0 w0 L lv toks e Bl Bo Bt (w.alloc o) n out todo := h.next ((Below.refl _ _).alloc (Nat.le_refl _) o)
theorem keepTy_kbL (h : LineI W0 L lv toks e w n) (hk : KB (fun g => g = L) w w') (u : TypeId) (hu : u ≠ 62) : KeepTy u w w' := KeepTy.kb hk fun g hg => by subst hg; exact NotTy.of h.box (Ne.symm hu)
theorem ES.lineN (h : ES W0 w0 L lv toks e Bl Bo Bt w n out todo) {n' : Nat} (hk : KB (fun g => g = L) w w') (hl : LineI W0 L lv toks e w' n') (hn : n ≤ n') : ES W0 w0 L lv toks e Bl Bo Bt w' n' out todo := by
 have k := keepTy_kbL h.line hk
 exact ⟨hl, h.kb.trans hk, k _ (by decide) _ _ h.lb, h.hl, h.ho, h.ht, h.hL, h.st.keep (fun u hu => k u (by rcases hu with h | h | h | h | h <;> rw [h] <;> decide)), Nat.le_trans h.cnt (Nat.succ_le_succ hn)⟩
theorem ES.lt (h : ES W0 w0 L lv toks e Bl Bo Bt w n out todo) : w0.heap.size ≤ w.heap.size := h.kb.size
end
theorem LineI.under {W0 w w' : World} {L n B : Nat} {lv : Value} {toks : List (Tk × Nat)} {e : Int} (h : LineI W0 L lv toks e w n) (hb : Below B w w') (hB : L < B) : LineI W0 L lv toks e w' n :=
 ⟨h.size, h.below.trans (hb.mono (Nat.le_of_lt hB)), h.row, (hb.block L hB).trans h.box, h.hn, h.small, h.right⟩
def FTx (M Bo Bt : Nat) (w : World) (ov tv : Value) (cs : List Value) (out : List Itm) (todo : List (Option Itm)) : Prop := OutI M Bo w ov out ∧ TodoI M Bo Bt w ov tv cs todo
theorem FTx.keep {M Bo Bt : Nat} {w w' : World} {ov tv : Value} {cs : List Value} {out : List Itm} {todo : List (Option Itm)} (h : FTx M Bo Bt w ov tv cs out todo) (hk : ∀ u, u = 65 ∨ u = 121 ∨ u = 2 ∨ u = 135 ∨ u = 1 → KeepTy u w w') : FTx M Bo Bt w' ov tv cs out todo := by
 obtain ⟨ho, hb, hr, ht⟩ := h
 exact ⟨ho.keep (fun u hu => hk u (by rcases hu with h | h | h <;> simp [h])), hk _ (by simp) _ _ hb, own_keep hr (hk _ (by simp)), ht.keep fun b cs h1 h2 => ⟨h1, hk _ (by simp) _ _ h2⟩⟩
def PhM (P : Option (Itm × List Tk)) (i : Itm) (r : List Tk) (fa fx : Int) : Prop := match P with
 | some (j, q) => j = i ∧ q = r ∧ fa = 0 ∧ fx = 0
 | none => (fx == 0) = false
theorem ne_types {w : World} {g g' : Nat} {cs cs' : Array Value} {t t' : TypeId} (h : w.heap[g]? = some (.cells cs t (0, 0))) (h' : w.heap[g']? = some (.cells cs' t' (0, 0))) (hne : t ≠ t') : g ≠ g' := fun e => by
 subst e; rw [h] at h'; injection h' with h'; injection h' with _ h'; exact hne h'
theorem results_later {tmps : Array Value} {w : World} (g : Nat) {cs : Array Value}
  (hp : tmps.getD 5 undef = .pointer (some ⟨g, 0, none⟩)) (hg : w.heap[g]? = some (.cells cs 28 (0, 0))) (hs : (Tryz.prog.info? 28).map (·.size) = some cs.size) :
  (results Tryz.f64 tmps).run Tryz.prog w = .ok (.agg cs) w := by
 have hp' : tmps[5]?.getD undef = .pointer (some ⟨g, 0, none⟩) := by simpa using hp
 have h : Tryz.f64.results = #[.cell 5 28] := by rfl
 simp [results, h, hp', asAddr, run_loadVar_row w g 28 28 cs (0, 0) _ hg Tryz.underlying28 rfl hs]
set_option maxHeartbeats 8000000 in
theorem later_any {W0 w0 w : World} {L Bl Bo Bt n : Nat} {lv : Value} {toks : List (Tk × Nat)} {e : Int} {out : List Itm} {todo : List (Option Itm)} (h : ES W0 w0 L lv toks e Bl Bo Bt w n out todo) (hn : n < toks.length) (left : Bool) :
  Calls Tryz.prog 64 #[.bool left, .pointer (some ⟨Bl, 0, none⟩), .pointer (some ⟨Bt, 0, none⟩), .pointer (some ⟨Bo, 0, none⟩)] w fun r w' => ∃ i fa fx n', r = .returned (.agg #[.int .i64 fa, .int .i64 fx]) ∧ n < n' ∧ ES W0 w0 L lv toks e Bl Bo Bt w' n' out (some i :: todo) ∧
   PhM (phraseP VV left (restT toks n)) i (restT toks n') fa fx ∧ ∀ u, u ≠ 62 → u ≠ 135 → u ≠ 1 → KeepTy u w w' := by
 have hsm := h.line.small
 have h1 := h.alloc (.cells #[.int .i64 0, .int .i64 0] 28)
 have hx5 := World.alloc_heap_new w (.cells #[.int .i64 0, .int .i64 0] 28)
 have cl := cell_of_row _ Bl 0 _ _ _ h1.lb
 have hph := phrase_any h1.line hn left
 obtain ⟨P, hP⟩ : ∃ P, phraseP VV left (restT toks n) = P := ⟨_, rfl⟩
 rw [hP] at hph ⊢
 have hc := h.cnt
 have hw5 := h.lt
 obtain ⟨ov, tv, cs, hft⟩ := h.st
 have hft : FTx w0.heap.size Bo Bt w ov tv cs out todo := hft
 have hov : ∀ g, ov.ownBlock = some g → g < w.heap.size := fun g hg => (ownBlock_lt hft.1.row hg).2
 have H1 := Lib.hid h1; have HPH := Lib.hid hph; have HX5 := Lib.hid hx5
 clear h h1 hph hx5 hP
 go_enter Tryz.func64, Tryz.ntmps64
 go_wp2_with fail
 refine HPH.out.mono ?_
 rintro _ w1 ⟨hk1, k, a, f, n', hn', hnn, hl1, fa, fx, rfl, hm⟩
 have hs1 := H1.out.lineN hk1 hl1 (by omega)
 have hx5 := keepTy_kbL H1.out.line hk1 28 (by decide) _ _ HX5.out
 have hs2 := (hs1.alloc (.cells (itmC ⟨k, f, [], []⟩ a) 121)).alloc (.cells #[.int .i64 fa, .int .i64 fx] 28)
 have y5 := heap_alloc (heap_alloc hx5 (.cells (itmC ⟨k, f, [], []⟩ a) 121)) (.cells #[.int .i64 fa, .int .i64 fx] 28)
 have y6 := heap_alloc (World.alloc_heap_new w1 (.cells (itmC ⟨k, f, [], []⟩ a) 121)) (.cells #[.int .i64 fa, .int .i64 fx] 28)
 have y7 := World.alloc_heap_new (w1.alloc (.cells (itmC ⟨k, f, [], []⟩ a) 121)) (.cells #[.int .i64 fa, .int .i64 fx] 28)
 have hkeep : ∀ u, u ≠ 62 → KeepTy u w ((w1.alloc (.cells (itmC ⟨k, f, [], []⟩ a) 121)).alloc (.cells #[.int .i64 fa, .int .i64 fx] 28)) := fun u hu =>
  (KeepTy.below ((Below.refl _ _).alloc (Nat.le_refl _) _)).trans ((keepTy_kbL H1.out.line hk1 u hu).trans (KeepTy.below (((Below.refl _ _).alloc (Nat.le_refl _) _).alloc (by simp) _)))
 have hov6 : ov.ownBlock ≠ some w1.heap.size := fun e => by have := hov _ e; have := hk1.size; simp at this; omega
 have hft2 := hft.keep (fun u hu => hkeep u (by rcases hu with h | h | h | h | h <;> rw [h] <;> decide))
 have hm2 : PhM P ⟨k, f, [], []⟩ (restT toks n') fa fx := by
  cases P with
  | none => exact hm
  | some p => exact hm
 have HFT2 := Lib.hid hft2; have HM2 := Lib.hid hm2
 have hHK := Lib.hid hkeep; have HY5 := Lib.hid y5; have HY6 := Lib.hid y6; have HY7 := Lib.hid y7; have HS2 := Lib.hid hs2
 have hk1s : w.heap.size + 1 ≤ w1.heap.size := by have := hk1.size; simp at this; omega
 clear hs1 hx5 hs2 y5 y6 y7 hkeep hm hm2 hft hft2 hov hk1 hl1 HPH HX5 cl H1
 unfold itmC at *
 dsimp only at *
 go_upto_region 2 with fail
 refine gen_worldA (fun W => ES W0 w0 L lv toks e Bl Bo Bt W n' out todo ∧ W.heap[w.heap.size]? = some (.cells #[.int .i64 0, .int .i64 0] 28 (0, 0)) ∧ W.heap[w1.heap.size]? = some (.cells #[.int .i64 k, .int .i64 a, .int .u8 f, .string ⟨#[]⟩, .slice none 0 0] 121 (0, 0)) ∧
  W.heap[w1.heap.size + 1]? = some (.cells #[.int .i64 fa, .int .i64 fx] 28 (0, 0)) ∧ (∀ u, u ≠ 62 → KeepTy u w W) ∧ FTx w0.heap.size Bo Bt W ov tv cs out todo) ⟨HS2.out, HY5.out, HY6.out, by simpa using HY7.out, hHK.out, HFT2.out⟩ ?_
 clear HFT2 HS2 HY5 HY6 HY7 hHK
 have hne : w.heap.size ≠ w1.heap.size + 1 := by have := hk1s; omega
 generalize w1.heap.size + 1 = x7 at hne ⊢
 generalize w1.heap.size = x6 at hov6 ⊢
 obtain ⟨x5, hx5⟩ : ∃ x, w.heap.size = x := ⟨_, rfl⟩
 rw [hx5] at hne hw5 ⊢
 rintro W ⟨hes, y5, y6, y7, hkw, hoi, hti⟩
 have hbt := hti.box
 have hrow := hti.row
 have c0 := cell_of_row W Bt 0 _ _ _ hbt
 obtain ⟨ta, tc, rfl⟩ : ∃ a c, tv = .slice a todo.length c := by
  obtain ⟨_, ⟨hv, h0⟩ | ⟨g, cap, cur, hv, _⟩⟩ := hrow
  ·exact ⟨none, 0, by rw [hv, h0]⟩
  ·exact ⟨_, _, hv⟩
 have hal : ∀ {g : Nat} {x : Obj}, W.heap[g]? = some x → (W.alloc (.cells #[thkV Bo x6] 1)).heap[g]? = some x := fun h => heap_alloc h _
 have hG : (W.alloc (.cells #[thkV Bo x6] 1)).heap[W.heap.size]? = some (.cells #[thkV Bo x6] 1 (0, 0)) := World.alloc_heap_new _ _
 have hrow1 := hrow.alloc (.cells #[thkV Bo x6] 1)
 have hM : w0.heap.size ≤ (W.alloc (.cells #[thkV Bo x6] 1)).heap.size := by have := hes.lt; simp; omega
 have hlen := hes.cnt
 obtain ⟨i0, hi, hz0, hz1, hz2⟩ := info_parts (show (Tryz.prog.info? 1).map (fun i => (i.zero, i.size, i.bytes)) = some (some .nilFunc, 1, 8) by kernel_rfl)
 have HE := Lib.hid hes; have HW := Lib.hid (show True from trivial); have HT := Lib.hid hti; have HO := Lib.hid hoi
 have HI := Lib.hid hi; have HZ0 := Lib.hid hz0; have HZ1 := Lib.hid hz1; have HZ2 := Lib.hid hz2; have HR1 := Lib.hid hrow1; have HGG := Lib.hid hG; have HAL := Lib.hid (hal hbt); have HMM := Lib.hid hM
 have HA5 := Lib.hid (hal y5); have HA7 := Lib.hid (hal y7); have HKW := Lib.hid hkw
 clear hes hti hoi hbt hrow hal hG hrow1 hM hi hz0 hz1 hz2 y5 y7 hkw
 unfold thkV at *
 go_wp2_with (first
  | (at_builtin; (refine wpList_append_src _ rfl _ _ 135 rfl w0.heap.size 1 i0 .nilFunc 1 8 Tryz.underlying135 HI.out HZ0.out HZ1.out HZ2.out rfl (show 0 < 1 by decide) _ todo.length cs rfl HR1.out _ 1 [thkV Bo x6] rfl (src_block HGG.out 1) (by simp) (by intro u hu; cases List.mem_singleton.1 hu; rfl) (by unfold maxLen; omega) (by omega) HMM.out ?_); intro v' wz hrz hgz hnz; obtain ⟨zg, zc, rfl⟩ := Go.Joins.ownsRow_form hrz (by omega); have hkz : ∀ u, u ≠ 1 → KeepTy u (W.alloc (.cells #[thkV Bo x6] 1)) wz := (fun u hu => KeepTy.grown hgz (fun g e => by obtain ⟨cur, hc⟩ := own_typed HR1.out e; exact NotTy.of hc (Ne.symm hu))); have c1 := cell_of_row wz Bt 0 _ _ _ (hkz 135 (by decide) _ _ HAL.out); have f1 := frozen_of_row wz Bt 0 _ _ (hkz 135 (by decide) _ _ HAL.out); have HRZ := Lib.hid hrz; have HGZ := Lib.hid hgz; have HNZ := Lib.hid hnz; have HKZ := Lib.hid hkz; have HBZ := Lib.hid (hkz 135 (by decide) _ _ HAL.out);
        have HX5 := Lib.hid (block_other (p := ⟨Bt, 0, none⟩) (hkz 28 (by decide) _ _ HA5.out) (by intro e; have h1 := hkz 135 (by decide) _ _ HAL.out; have h2 := hkz 28 (by decide) _ _ HA5.out; rw [← e] at h2; rw [h1] at h2; exact absurd (congrArg (fun o => match o with | some (Obj.cells _ t _) => t | _ => 0) h2) (show ¬ 135 = 28 by decide)) (.slice (some ⟨zg, 0, none⟩) (todo.length + 1) zc));
        have HX7 := Lib.hid (block_other (p := ⟨Bt, 0, none⟩) (hkz 28 (by decide) _ _ HA7.out) (by intro e; have h1 := hkz 135 (by decide) _ _ HAL.out; have h2 := hkz 28 (by decide) _ _ HA7.out; rw [← e] at h2; rw [h1] at h2; exact absurd (congrArg (fun o => match o with | some (Obj.cells _ t _) => t | _ => 0) h2) (show ¬ 135 = 28 by decide)) (.slice (some ⟨zg, 0, none⟩) (todo.length + 1) zc)); clear hrz hgz hnz hkz)
  | ((with_reducible show wpList _ _ _ ({ dst := some _, op := Op.load 28 (.tmp 7), type := _, pos := _, after := _, guard := _ } :: _) _ _); (refine wpList_loadW (by rfl) 28 _ rfl x7 rfl _ _ (0, 0) _ HX7.out Tryz.underlying28 rfl (by kernel_rfl) ?_))
  | ((with_reducible show wpList _ _ _ ({ dst := none, op := Op.store 28 (.tmp 5) (.tmp _), type := _, pos := _, after := _, guard := _ } :: _) _ _); (refine wpList_storeW rfl 28 _ _ rfl x5 rfl _ _ rfl _ HX5.out (by kernel_rfl) (by rfl) (by rfl) ?_); intro w2 hr2 hg2))
 obtain ⟨hEl, hEk, hEb, hEhl, hEho, hEht, hEhL, hEst, hEc⟩ := HE.out
 have q0 : Below w0.heap.size W (W.alloc (.cells #[thkV Bo x6] 1)) := (Below.refl _ _).alloc (by have := hEk.size; omega) _
 have q1 : Below w0.heap.size W wz := q0.grown HGZ.out HMM.out (fun g hg => (World.ownsRow.lt HR1.out g hg).1)
 have q2 := q1.setCell (p := ⟨Bt, 0, none⟩) hEht (.slice (some ⟨zg, 0, none⟩) (todo.length + 1) zc)
 have q3 : Below w0.heap.size W w2 := q2.grown hg2 (by have := q2.size; have := hEk.size; omega) (fun g hg => by cases hg; exact hw5)
 have k0 : ∀ u, KeepTy u W (W.alloc (.cells #[thkV Bo x6] 1)) := fun u => KeepTy.below ((Below.refl _ _).alloc (Nat.le_refl _) _)
 have k1 : ∀ u, u ≠ 135 → KeepTy u wz (wz.setCell ⟨Bt, 0, none⟩ (.slice (some ⟨zg, 0, none⟩) (todo.length + 1) zc)) := fun u hu => KeepTy.setCell (p := ⟨Bt, 0, none⟩) (NotTy.of HBZ.out (Ne.symm hu)) _
 have k2 : ∀ u, u ≠ 28 → KeepTy u (wz.setCell ⟨Bt, 0, none⟩ (.slice (some ⟨zg, 0, none⟩) (todo.length + 1) zc)) w2 := fun u hu => KeepTy.grown hg2 (fun g hg => by cases hg; exact NotTy.of HX5.out (Ne.symm hu))
 have kall : ∀ u, u ≠ 1 → u ≠ 135 → u ≠ 28 → KeepTy u W w2 := fun u h1 h2 h3 => (((k0 u).trans (HKZ.out u h1)).trans (k1 u h2)).trans (k2 u h3)
 have hst : FT w0.heap.size Bo Bt w2 out (some ⟨k, f, [], []⟩ :: todo) := by
  refine ⟨ov, _, cs ++ [thkV Bo x6], HO.out.keep (fun u hu => kall u ?_ ?_ ?_), k2 _ (by decide) _ _ (set_block HBZ.out), own_keep (own_keep HRZ.out (k1 _ (by decide))) (k2 _ (by decide)), ?_⟩
  ·rcases hu with h | h | h <;> rw [h] <;> decide
  ·rcases hu with h | h | h <;> rw [h] <;> decide
  ·rcases hu with h | h | h <;> rw [h] <;> decide
  ·rw [List.reverse_append]
   refine ⟨⟨x6, a, rfl, ⟨rfl, rfl⟩, hov6, kall _ (by decide) (by decide) (by decide) _ _ y6⟩, ?_⟩
   exact HT.out.thk.keep fun b cs' h1 h2 => ⟨h1, kall _ (by decide) (by decide) (by decide) _ _ h2⟩
 refine bodyPost_ret (results_later x5 rfl hr2 (by kernel_rfl)) rfl ⟨_, _, _, n', rfl, hnn, ⟨hEl.under q3 hEhL, hEk.then_below q3 (fun g h1 h2 => by omega), kall _ (by decide) (by decide) (by decide) _ _ hEb, hEhl, hEho, hEht, hEhL, hst, ?_⟩, HM2.out, fun u h1 h2 h3 => ?_⟩
 ·simp; omega
 ·have hk := (((HKW.out u h1).trans (k0 u)).trans (HKZ.out u h3)).trans (k1 u h2)
  intro g cur hg
  have hlt := block_lt hg
  exact block_grown (hk g cur hg) hg2 (fun e => by cases e; omega)
end Go.Proofs.YtokghjnkfabgiaaGreatDoor

namespace Go.Proofs.YtokghjnkfabgiaaGreatDoor
open Go.RowKit Go.Lib

section
variable {M Bo Bt : Nat} {w wz : World} {ov tv v' : Value} {cs : List Value} {out : List Itm} {todo : List (Option Itm)}
theorem FTx.push (h : FTx M Bo Bt w ov tv cs out todo) (hMo : M ≤ Bo) (hM : M ≤ w.heap.size) {i : Itm} (hrz : RowG itmR M 121 wz v' (out ++ [i])) (hgz : w.grownBy wz ov.ownBlock) (hmv : Newer w ov v') :
  FTx M Bo Bt (wz.setCell ⟨Bo, 0, none⟩ v') v' tv cs (out ++ [i]) todo ∧ Below M w (wz.setCell ⟨Bo, 0, none⟩ v') ∧ ∀ u, u ≠ 65 → u ≠ 121 → KeepTy u w (wz.setCell ⟨Bo, 0, none⟩ v') := by
 obtain ⟨ho, hb, hr, ht⟩ := h
 have k1 : ∀ u, u ≠ 121 → KeepTy u w wz := fun u hu => KeepTy.grown hgz (fun g e => by obtain ⟨cur, hc⟩ := ownBlock_ty ho.row e; exact NotTy.of hc (Ne.symm hu))
 have hbo := k1 _ (by decide) _ _ ho.box
 have k2 : ∀ u, u ≠ 65 → KeepTy u wz (wz.setCell ⟨Bo, 0, none⟩ v') := fun u hu => KeepTy.setCell (p := ⟨Bo, 0, none⟩) (NotTy.of hbo (Ne.symm hu)) _
 have kall : ∀ u, u ≠ 65 → u ≠ 121 → KeepTy u w (wz.setCell ⟨Bo, 0, none⟩ v') := fun u h1 h2 => (k1 u h2).trans (k2 u h1)
 refine ⟨⟨⟨set_block hbo, hrz.same (fun cs x ⟨a, v, e, h⟩ => ⟨a, v, e, h.keepTy (k2 _ (by decide))⟩) (k2 _ (by decide))⟩, kall _ (by decide) (by decide) _ _ hb, own_keep hr (kall _ (by decide) (by decide)), ht.keep fun b cs' e1 e2 => ⟨?_, ?_⟩⟩, ?_, kall⟩
 ·rcases hmv with e | ⟨k, e, hk⟩
  ·rw [e]; exact e1
  ·rw [e]; intro h; cases h; exact absurd (block_lt e2) (by omega)
 ·have h1 := block_grown e2 hgz e1
  exact block_other (p := ⟨Bo, 0, none⟩) h1 (ne_types hbo h1 (by decide)) _
 ·exact ((Below.refl M w).grown hgz hM (fun g hg => (ownBlock_lt ho.row hg).1)).setCell (p := ⟨Bo, 0, none⟩) hMo _
theorem FTx.pushT (h : FTx M Bo Bt w ov tv cs out todo) (hMt : M ≤ Bt) (hM : M ≤ w.heap.size) {v1 : Value} {o : Option Itm} (h1 : Thk1 Bo w ov v1 o) (hrz : wz.ownsRow M 1 1 v' (todo.length + 1) (cs ++ [v1])) (hgz : w.grownBy wz tv.ownBlock) :
  FTx M Bo Bt (wz.setCell ⟨Bt, 0, none⟩ v') ov v' (cs ++ [v1]) out (o :: todo) ∧ Below M w (wz.setCell ⟨Bt, 0, none⟩ v') ∧ ∀ u, u ≠ 135 → u ≠ 1 → KeepTy u w (wz.setCell ⟨Bt, 0, none⟩ v') := by
 obtain ⟨ho, hb, hr, ht⟩ := h
 have k1 : ∀ u, u ≠ 1 → KeepTy u w wz := fun u hu => KeepTy.grown hgz (fun g e => by obtain ⟨cur, hc⟩ := own_typed hr e; exact NotTy.of hc (Ne.symm hu))
 have hbt := k1 _ (by decide) _ _ hb
 have k2 : ∀ u, u ≠ 135 → KeepTy u wz (wz.setCell ⟨Bt, 0, none⟩ v') := fun u hu => KeepTy.setCell (p := ⟨Bt, 0, none⟩) (NotTy.of hbt (Ne.symm hu)) _
 have kall : ∀ u, u ≠ 135 → u ≠ 1 → KeepTy u w (wz.setCell ⟨Bt, 0, none⟩ v') := fun u h1 h2 => (k1 u h2).trans (k2 u h1)
 have hth : Thk Bo w ov (cs ++ [v1]).reverse (o :: todo) := by rw [List.reverse_append]; exact ⟨h1, ht⟩
 refine ⟨⟨ho.keep (fun u hu => kall u ?_ ?_), set_block hbt, own_keep hrz (k2 _ (by decide)), hth.keep fun b cs' e1 e2 => ⟨e1, kall _ (by decide) (by decide) _ _ e2⟩⟩, ?_, kall⟩
 ·rcases hu with h | h | h <;> rw [h] <;> decide
 ·rcases hu with h | h | h <;> rw [h] <;> decide
 ·exact ((Below.refl M w).grown hgz hM (fun g hg => (World.ownsRow.lt hr g hg).1)).setCell (p := ⟨Bt, 0, none⟩) hMt _
theorem FTx.pop (h : FTx M Bo Bt w ov tv cs out (none :: todo)) (hMt : M ≤ Bt) : ∃ g cap vs, tv = .slice (some ⟨g, 0, none⟩) (todo.length + 1) cap ∧ todo.length + 1 ≤ cap ∧ cap ≤ maxLen ∧
  FTx M Bo Bt (w.setCell ⟨Bt, 0, none⟩ (.slice (some ⟨g, 0, none⟩) todo.length cap)) ov (.slice (some ⟨g, 0, none⟩) todo.length cap) vs out todo ∧ Below M w (w.setCell ⟨Bt, 0, none⟩ (.slice (some ⟨g, 0, none⟩) todo.length cap)) ∧ ∀ u, u ≠ 135 → KeepTy u w (w.setCell ⟨Bt, 0, none⟩ (.slice (some ⟨g, 0, none⟩) todo.length cap)) := by
 obtain ⟨ho, ht⟩ := h
 obtain ⟨g, cap, v, vs, rfl, hcap, hcm, rfl, hvl, hx, h1, hth, hrow⟩ := todo_top ht
 have hbt := ht.box
 have k2 : ∀ u, u ≠ 135 → KeepTy u w (w.setCell ⟨Bt, 0, none⟩ (.slice (some ⟨g, 0, none⟩) todo.length cap)) := fun u hu => KeepTy.setCell (p := ⟨Bt, 0, none⟩) (NotTy.of hbt (Ne.symm hu)) _
 refine ⟨g, cap, vs, rfl, hcap, hcm, ⟨ho.keep (fun u hu => k2 u ?_), set_block hbt, own_keep hrow (k2 _ (by decide)), hth.keep fun b cs' e1 e2 => ⟨e1, k2 _ (by decide) _ _ e2⟩⟩, (Below.refl M w).setCell (p := ⟨Bt, 0, none⟩) hMt _, k2⟩
 rcases hu with h | h | h <;> rw [h] <;> decide
end
section
variable {W0 w0 w w' : World} {L Bl Bo Bt n : Nat} {lv : Value} {toks : List (Tk × Nat)} {e : Int} {out out' : List Itm} {todo todo' : List (Option Itm)}
theorem ES.turn (h : ES W0 w0 L lv toks e Bl Bo Bt w n out todo) (hb : Below w0.heap.size w w') (hk : KeepTy 60 w w') (hft : FT w0.heap.size Bo Bt w' out' todo') (hc : out'.length + todo'.length ≤ n + 1) : ES W0 w0 L lv toks e Bl Bo Bt w' n out' todo' :=
 ⟨h.line.under hb h.hL, h.kb.then_below hb (fun g h1 h2 => by omega), hk _ _ h.lb, h.hl, h.ho, h.ht, h.hL, hft, hc⟩
theorem ES.setTok (h : ES W0 w0 L lv toks e Bl Bo Bt w n out todo) {row : Nat} (hg : w.grownBy w' (some row)) {cs : Array Value} {t : TypeId} (hr : w.heap[row]? = some (.cells cs t (0, 0))) (hw : w0.heap.size ≤ row) (ht : t ≠ 62 ∧ t ≠ 60 ∧ t ≠ 65 ∧ t ≠ 121 ∧ t ≠ 2 ∧ t ≠ 135 ∧ t ≠ 1) :
  ES W0 w0 L lv toks e Bl Bo Bt w' n out todo := by
 have k : ∀ u, t ≠ u → KeepTy u w w' := fun u hu => KeepTy.grown hg (fun g e => by cases e; exact NotTy.of hr hu)
 obtain ⟨h1, h2, h3, h4, h5, h6, h7⟩ := ht
 exact h.turn ((Below.refl _ _).grown hg h.lt (fun g e => by cases e; exact hw)) (k _ h2) (h.st.keep fun u hu => k u (by rcases hu with e | e | e | e | e <;> subst e <;> assumption)) h.cnt
end
def exprC (b : Bool) (s : PS) : Option (List Itm) := exprK VV (s.rest.length + 1) b s
theorem exprC_want (s : PS) : exprC true s = wantQ VV exprC (headT s.rest) s := by
 obtain ⟨rest, out, todo, k⟩ := s
 unfold exprC
 rw [exprK]
 cases rest with
 | nil => simp [wantQ, headT, lineT, isSign]
 | cons t r =>
  exact want_congr fun b s h => by
   show exprK VV (r.length + 1) b s = exprC b s
   exact fuel_any _ _ b s (by omega) (Nat.lt_succ_self _)
theorem exprC_beh (s : PS) : exprC false s = behQ VV exprC (headT (closeP s.rest s.out s.todo s.opn).rest) (closeP s.rest s.out s.todo s.opn) := by
 have h1 : exprC false s = exprK VV (s.rest.length + 1) false s := rfl
 rw [h1, exprK]
 have := close_rest s.rest s.out s.todo s.opn
 exact beh_congr fun b s' h => fuel_any _ _ b s' (by omega) (Nat.lt_succ_self _)
def noneN (l : List (Option Itm)) : Nat := (l.filter fun o => o.isNone).length
theorem finish_sum : ∀ (out : List Itm) (todo : List (Option Itm)), (finishP out todo).1.length + (finishP out todo).2.length = out.length + todo.length
 | out, [] => by cases out <;> rfl
 | out, none :: r => by cases out <;> rfl
 | out, some i :: r => by
  have := finish_sum (out ++ [i]) r
  rw [finishP, this]
  simp
  omega
theorem finish_nones : ∀ (out : List Itm) (todo : List (Option Itm)), 0 < noneN todo → ∃ r, (finishP out todo).2 = none :: r ∧ noneN r + 1 = noneN todo
 | out, [], h => absurd h (by decide)
 | out, none :: r, h => ⟨r, by cases out <;> rfl, rfl⟩
 | out, some i :: r, h => by
  obtain ⟨r', h1, h2⟩ := finish_nones (out ++ [i]) r h
  exact ⟨r', by rw [finishP]; exact h1, h2⟩
theorem nones_le : ∀ todo : List (Option Itm), noneN todo ≤ todo.length := fun todo => List.length_filter_le _ _
theorem close_step {t : Tk} {r : List Tk} {out : List Itm} {todo : List (Option Itm)} {k : Nat} (h : isSign t 41 = true) : closeP (t :: r) out todo (k + 1) = closeP r (finishP out todo).1 (finishP out todo).2.tail k := by rw [closeP, if_pos h]
theorem close_stop {r : List Tk} {out : List Itm} {todo : List (Option Itm)} {k : Nat} (h : k = 0 ∨ isSign (headT r) 41 = false) : closeP r out todo k = ⟨r, out, todo, k⟩ := by
 cases r with
 | nil => cases k <;> rfl
 | cons t r =>
  cases k with
  | zero => rfl
  | succ k =>
   rcases h with h | h
   ·omega
   ·rw [closeP, if_neg (by rw [show isSign t 41 = false from h]; decide)]
theorem nums_cons {t : Tk} {r : List Tk} (h : t.kind = 2) : numsP (t :: r) = (t.n :: (numsP r).1, (numsP r).2) := by rw [numsP, if_pos h]
theorem nums_stop {r : List Tk} (h : (headT r).kind ≠ 2) : numsP r = ([], r) := by
 cases r with
 | nil => rfl
 | cons t r => rw [numsP, if_neg (show ¬ t.kind = 2 from h)]
theorem field_tok0 (w : World) (a b c d : Value) : (Instr.field 39 (.agg #[a, b, c, d]) 0).run Tryz.prog w = .ok a w := by kernel_rfl
theorem field_tok2 (w : World) (a b c d : Value) : (Instr.field 39 (.agg #[a, b, c, d]) 2).run Tryz.prog w = .ok c w := by kernel_rfl
theorem field_tok3 (w : World) (a b c d : Value) : (Instr.field 39 (.agg #[a, b, c, d]) 3).run Tryz.prog w = .ok d w := by kernel_rfl
theorem right_short {t : Tk} (h : RightT t) : t.word.length ≤ 16 := by
 rcases h with ⟨_, _, b, q, _, _, _, h⟩ | ⟨_, h, _⟩ | ⟨_, _, ⟨b, h, _⟩ | h | h⟩ | h
 ·exact h
 ·rw [h]; decide
 ·rw [h]; simp
 ·rw [h]; decide
 ·rw [h]; decide
 ·rw [h]; decide
theorem LineI.short {W0 w : World} {L n : Nat} {lv : Value} {toks : List (Tk × Nat)} {e : Int} (h : LineI W0 L lv toks e w n) {t : Tk} (ht : headT (restT toks n) = t) : t.word.length ≤ 9223372036854775807 := by
 by_cases hn : n < toks.length
 ·rw [rest_cons hn] at ht
  have := right_short (h.right _ (List.getElem_mem hn))
  rw [← ht]
  show toks[n].1.word.length ≤ _
  omega
 ·rw [rest_nil hn] at ht
  rw [← ht]
  decide
end Go.Proofs.YtokghjnkfabgiaaGreatDoor
