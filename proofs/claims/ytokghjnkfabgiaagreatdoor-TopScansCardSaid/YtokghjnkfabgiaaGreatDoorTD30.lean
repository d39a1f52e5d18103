import Derived.Test.YtokghjnkfabgiaaGreatDoorTD3
import Derived.Test.YtokghjnkfabgiaaGreatDoorTD28
set_option linter.unusedVariables false
set_option linter.unusedSimpArgs false
set_option maxRecDepth 100000
namespace Go.Proofs.YtokghjnkfabgiaaGreatDoor
open Go.RowKit Go.Lib

abbrev AryP := List Int × List Int
def okO (t : Nat) (r : ArrE) : Option (Nat × AryP) := if r.2 = 0 then some (t, r.1) else none
def topA (M : Str → Option AryP) (it : Itm) (st : List AryP) : Option (Nat × AryP) :=
 if it.how = 1 then (if it.nums.length = 1 then some (0, ([], it.nums)) else none)
 else if it.how = 2 then (M it.name).map fun a => (0, a)
 else if it.how = 3 then match st with
  | a :: _ => okO 1 (monadA it.fn a.1 a.2)
  | [] => none
 else if it.how = 4 then match st with
  | b :: a :: _ => okO 2 (dyadA it.fn a.1 a.2 b.1 b.2)
  | _ => none
 else if it.how = 5 then match st with
  | a :: _ => okO 1 (foldA it.fn a.1 a.2)
  | [] => none
 else if it.how = 6 then match st with
  | a :: _ => okO 1 (scanA it.fn a.1 a.2)
  | [] => none
 else none
structure ItemA (M : Str → Option AryP) (k : Nat) (it : Itm) (st st' : List AryP) (k' t : Nat) (a : AryP) : Prop where
 top : topA M it st = some (t, a)
 work : k + a.2.length ≤ 1048576
 i1 : ∀ x ∈ a.1, In64 x
 i2 : ∀ x ∈ a.2, In64 x
 st : st' = a :: st.drop t
 k : k' = k + a.2.length
def ItemsA (M : Str → Option AryP) : Nat → List Itm → List AryP → List AryP → Nat → Prop
 | k, [], st, st', k' => st' = st ∧ k' = k
 | k, it :: r, st, st', k' => ∃ st1 k1 t a, ItemA M k it st st1 k1 t a ∧ ItemsA M k1 r st1 st' k'
def putA (M : Str → Option AryP) (s : Str) (a : AryP) : Str → Option AryP := fun j => if j = s then some a else M j
def LinesA : (Str → Option AryP) → Nat → List LinP → List AryP → Prop
 | M, k, [], outs => outs = []
 | M, k, l :: r, outs => ∃ a k1 o, ItemsA M k l.items [] [a] k1 ∧ LinesA (putA M l.name a) k1 r o ∧ outs = a :: o
theorem items_append {M : Str → Option AryP} : ∀ {p q : List Itm} {k k1 k2 : Nat} {st st1 st2 : List AryP}, ItemsA M k p st st1 k1 → ItemsA M k1 q st1 st2 k2 → ItemsA M k (p ++ q) st st2 k2
 | [], q, k, k1, k2, st, st1, st2, h1, h2 => by obtain ⟨rfl, rfl⟩ := h1; exact h2
 | it :: p, q, k, k1, k2, st, st1, st2, h1, h2 => by
  obtain ⟨s, m, t, a, g, h⟩ := h1
  exact ⟨s, m, t, a, g, items_append h h2⟩
theorem item_one {M : Str → Option AryP} {k k' t : Nat} {it : Itm} {st st' : List AryP} {a : AryP} (h : ItemA M k it st st' k' t a) : ItemsA M k [it] st st' k' := ⟨_, _, _, _, h, rfl, rfl⟩
def EvalTo (M : Str → Option AryP) (e : Ex) (a : AryP) (c : Nat) : Prop := ∀ k st, k + c ≤ 1048576 → ItemsA M k e.post st (a :: st) (k + c)
def InA (a : AryP) : Prop := (∀ x ∈ a.1, In64 x) ∧ ∀ x ∈ a.2, In64 x
theorem eval_nam {M : Str → Option AryP} {s : Str} {a : AryP} (h : M s = some a) (ha : InA a) : EvalTo M (.nam s) a a.2.length := fun k st hk =>
 item_one (t := 0) (a := a) ⟨by show (M s).map (fun a => (0, a)) = _; rw [h]; rfl, hk, ha.1, ha.2, rfl, rfl⟩
theorem eval_mon {M : Str → Option AryP} {e : Ex} {a v : AryP} {c : Nat} {i : Itm} (h : EvalTo M e a c) (hv : ∀ st, topA M i (a :: st) = some (1, v)) (hi : InA v) : EvalTo M (.mon i e) v (c + v.2.length) := fun k st hk =>
 items_append (h k st (by omega)) (item_one (t := 1) (a := v) ⟨hv st, by omega, hi.1, hi.2, rfl, by omega⟩)
theorem top_fold {M : Str → Option AryP} {f : Int} {a : AryP} {s d : List Int} (h : foldA f a.1 a.2 = okA s d) (st : List AryP) : topA M ⟨5, f, [], []⟩ (a :: st) = some (1, (s, d)) := by
 show okO 1 (foldA f a.1 a.2) = _
 rw [h]
 rfl
theorem top_scan {M : Str → Option AryP} {f : Int} {a : AryP} {s d : List Int} (h : scanA f a.1 a.2 = okA s d) (st : List AryP) : topA M ⟨6, f, [], []⟩ (a :: st) = some (1, (s, d)) := by
 show okO 1 (scanA f a.1 a.2) = _
 rw [h]
 rfl
theorem lines_cons {M : Str → Option AryP} {k c : Nat} {nm : Str} {e : Ex} {a : AryP} {r : List LinP} {o : List AryP} (h : EvalTo M e a c) (hk : k + c ≤ 1048576) (hr : LinesA (putA M nm a) (k + c) r o) : LinesA M k (⟨nm, e.post⟩ :: r) (a :: o) :=
 ⟨a, k + c, o, h k [] hk, hr, rfl⟩
def nmX : Str := [120]
def sidesIn (s : List Int) : List InpP := [⟨nmX, s.map fun n => ⟨[], n⟩⟩]
def inputX (s : List Int) : Str := kwIn ++ (32 :: (nmX ++ sidesX (s.map fun n => (⟨[], n⟩ : SidP)) [10]))
theorem insX_in (s : List Int) (t : Str) : insX (sidesIn s) t = inputX s ++ t := by
 unfold sidesIn inputX
 simp [insX, sidesX_app]
theorem in_right {s : List Int} (h4 : s.length ≤ 4) (hs : ∀ x ∈ s, 0 ≤ x ∧ x ≤ 65536) : ∀ x ∈ sidesIn s, InpR VV x := by
 intro x hx
 cases List.mem_singleton.1 hx
 refine ⟨show VV.name nmX = true by decide +kernel, by simpa using h4, fun d hd => ?_⟩
 obtain ⟨n, hn, rfl⟩ := List.mem_map.1 hd
 have := hs n hn
 refine .inl ⟨rfl, ?_⟩
 unfold in64B
 simp
 omega
theorem dec_len : ∀ (k n : Nat), n < 10 ^ (k + 1) → (decDigits n).length ≤ k + 1
 | 0, n, h => by rw [decDigits, dif_pos (by simpa using h)]; simp
 | k + 1, n, h => by
  rw [decDigits]
  split
  ·simp
  ·have := dec_len k (n / 10) (by rw [Nat.pow_succ] at h; omega)
   simp
   omega
theorem num_len {n : Int} (h0 : 0 ≤ n) (h1 : n ≤ 65536) : (numStr n).length ≤ 5 := by
 unfold numStr
 rw [if_neg (by omega)]
 exact dec_len 4 _ (by omega)
theorem sidesX_len : ∀ {s : List Int}, (∀ x ∈ s, 0 ≤ x ∧ x ≤ 65536) → ∀ t : Str, (sidesX (s.map fun n => (⟨[], n⟩ : SidP)) t).length ≤ 6 * s.length + t.length
 | [], _, t => by simp [sidesX]
 | n :: s, h, t => by
  have h1 := h n List.mem_cons_self
  have h2 := num_len h1.1 h1.2
  have ih := sidesX_len (fun x hx => h x (List.mem_cons_of_mem _ hx)) t
  show (32 :: (spellT (sideT ⟨[], n⟩) ++ sidesX (s.map fun n => (⟨[], n⟩ : SidP)) t)).length ≤ _
  have e : spellT (sideT ⟨[], n⟩) = numStr n := rfl
  rw [e]
  simp only [List.length_cons, List.length_append]
  omega
theorem inputX_len {s : List Int} (h4 : s.length ≤ 4) (h : ∀ x ∈ s, 0 ≤ x ∧ x ≤ 65536) : (inputX s).length ≤ 40 := by
 have := sidesX_len h [10]
 unfold inputX kwIn nmX
 simp only [List.length_cons, List.length_append, List.length_nil] at *
 omega
def fourW (f : Int) : Str := if f = 1 then [43] else if f = 3 then [42] else if f = 6 then [109, 105, 110] else [109, 97, 120]
def nmY : Str := [121]
def scanT (f : Int) (s : List Int) : PrgT := ⟨sidesIn s, [(nmY, .mon ⟨6, f, [], []⟩ (.nam nmX))], .mon ⟨5, f, [], []⟩ (.nam nmX)⟩
theorem four_vi {f : Int} (h : Four f) (n : Int) (hn : n = 5 ∨ n = 6) : VI VV false ⟨n, f, [], []⟩ := by
 have h2 : VV.two (fourW f) = f ∧ f ≠ 0 ∧ f ≤ 17 := by rcases h with rfl | rfl | rfl | rfl <;> decide
 exact ⟨rfl, rfl, fourW f, .inr (.inr (.inl ⟨hn, rfl, h2⟩))⟩
theorem scan_fine {f : Int} {s : List Int} (hf : Four f) (h4 : s.length ≤ 4) (hs : ∀ x ∈ s, 0 ≤ x ∧ x ≤ 65536) : FineT VV (scanT f s) := by
 refine ⟨in_right h4 hs, fun x hx => ?_, ⟨⟨four_vi hf 5 (.inl rfl), show VV.name nmX = true by decide +kernel⟩, show (2 + 1 : Nat) ≤ 255 by decide, show (0 : Nat) ≤ 32 by decide⟩, show (1 + 1 + 1 : Nat) ≤ 64 by decide⟩
 cases List.mem_singleton.1 hx
 exact ⟨show VV.name nmY = true by decide +kernel, ⟨four_vi hf 6 (.inr rfl), show VV.name nmX = true by decide +kernel⟩, show (2 + 1 : Nat) ≤ 254 by decide, show (0 : Nat) ≤ 32 by decide⟩
theorem scan_text {f : Int} (hf : Four f) (s : List Int) : (scanT f s).text2 LL = inputX s ++ ([121, 58, 32] ++ fourW f ++ [92, 32, 120, 10, 111, 117, 116, 32] ++ fourW f ++ [47, 32, 120]) := by
 unfold PrgT.text2 scanT
 dsimp only
 rw [insX_in]
 congr 1
 rcases hf with rfl | rfl | rfl | rfl <;> decide +kernel
theorem foldD_len {f : Int} {s d : List Int} {lx : List (List Int)} (hr : right s d = true) (hl : LaneF s d lx) (hs : s.length ≠ 0) (h2 : d.length = 0 → s.length ≤ 2) : (foldD f s lx).length ≤ 65536 := by
 have hz := drop_size hr hs h2
 unfold foldD
 split
 ·rcases size_err s.dropLast with e | ⟨m, e⟩
  ·rw [e] at hz; cases hz
  ·have := (size_good e).le
   have h0 : 0 ≤ m := by have := (size_good e).prod; rw [this]; exact (prodL_le_pow (size_good e).side).1
   rw [e, List.length_replicate]
   dsimp only
   omega
 ·rw [List.length_map]; exact hl.len
theorem scan_eval {f : Int} {s d : List Int} {lx : List (List Int)} (hf : Four f) (hr : right s d = true) (hd : ∀ x ∈ d, In64 x) (hl : LaneF s d lx) (hs : s.length ≠ 0) (h2 : d.length = 0 → s.length ≤ 2) :
  LinesA (putA (fun _ => none) nmX (s, d)) 0 (scanT f s).post.lines [(s, scanD f lx), (s.dropLast, foldD f s lx)] := by
 have g := (right_good hr).2
 have hsi : ∀ x ∈ s, In64 x := fun x hx => by have := g.side x hx; unfold In64; omega
 have hsd : ∀ x ∈ s.dropLast, In64 x := fun x hx => hsi x (List.dropLast_subset s hx)
 have hdl := right_lenM hr
 have hsl := scanD_len f lx
 rw [hl.flat] at hsl
 have hz := drop_size hr hs h2
 have hfl := foldD_len (f := f) hr hl hs h2
 have e1 : EvalTo (putA (fun _ => none) nmX (s, d)) (.nam nmX) (s, d) d.length := eval_nam (a := (s, d)) (by unfold putA; rw [if_pos rfl]) ⟨hsi, hd⟩
 have e2 : EvalTo (putA (putA (fun _ => none) nmX (s, d)) nmY (s, scanD f lx)) (.nam nmX) (s, d) d.length := eval_nam (a := (s, d)) (by unfold putA; rw [if_neg (by decide), if_pos rfl]) ⟨hsi, hd⟩
 have a1 := eval_mon (i := ⟨6, f, [], []⟩) (v := (s, scanD f lx)) e1 (top_scan (scan_ok hf hr hl)) ⟨hsi, scanD_in hl hd⟩
 have a2 := eval_mon (i := ⟨5, f, [], []⟩) (v := (s.dropLast, foldD f s lx)) e2 (top_fold (fold_ok hf hr hl hs hz)) ⟨hsd, foldD_in hl hd⟩
 dsimp only at a1 a2
 refine lines_cons a1 (by omega) (lines_cons a2 (by omega) rfl)
end Go.Proofs.YtokghjnkfabgiaaGreatDoor

namespace Go.Proofs.YtokghjnkfabgiaaGreatDoor
open Go.RowKit Go.Lib

theorem nmX_name : VV.name nmX = true := by decide +kernel
end Go.Proofs.YtokghjnkfabgiaaGreatDoor
