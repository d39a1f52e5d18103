import Derived.Test.YtokghjnkfabgiaaGreatDoorTC3
import Derived.Test.YtokghjnkfabgiaaGreatDoorTC28
set_option linter.unusedVariables false
set_option linter.unusedSimpArgs false
set_option maxRecDepth 100000
namespace Go.Proofs.YtokghjnkfabgiaaGreatDoor
open Go.RowKit Go.Lib

abbrev AryP := List Int × List Int
def okO (t : Nat) (r : ArrE) : Option (Nat × AryP) := if r.2 = 0 then some (t, r.1) else none
def topA (M : Str → Option AryP) (it : Itm) (st : List AryP) : Option (Nat × AryP) :=
 if it.how = 1 then (if it.nums.length = 1 then some (0, ([], it.nums)) else none)
 else if it.how = 2 then (M it.name).map fun a => (0, a)
 else if it.how = 3 then match st with
  | a :: _ => okO 1 (monadA it.fn a.1 a.2)
  | [] => none
 else if it.how = 4 then match st with
  | b :: a :: _ => okO 2 (dyadA it.fn a.1 a.2 b.1 b.2)
  | _ => none
 else if it.how = 5 then match st with
  | a :: _ => okO 1 (foldA it.fn a.1 a.2)
  | [] => none
 else if it.how = 6 then match st with
  | a :: _ => okO 1 (scanA it.fn a.1 a.2)
  | [] => none
 else none
structure ItemA (M : Str → Option AryP) (k : Nat) (it : Itm) (st st' : List AryP) (k' t : Nat) (a : AryP) : Prop where
 top : topA M it st = some (t, a)
 work : k + a.2.length ≤ 1048576
 i1 : ∀ x ∈ a.1, In64 x
 i2 : ∀ x ∈ a.2, In64 x
 st : st' = a :: st.drop t
 k : k' = k + a.2.length
def ItemsA (M : Str → Option AryP) : Nat → List Itm → List AryP → List AryP → Nat → Prop
 | k, [], st, st', k' => st' = st ∧ k' = k
 | k, it :: r, st, st', k' => ∃ st1 k1 t a, ItemA M k it st st1 k1 t a ∧ ItemsA M k1 r st1 st' k'
def putA (M : Str → Option AryP) (s : Str) (a : AryP) : Str → Option AryP := fun j => if j = s then some a else M j
def LinesA : (Str → Option AryP) → Nat → List LinP → List AryP → Prop
 | M, k, [], outs => outs = []
 | M, k, l :: r, outs => ∃ a k1 o, ItemsA M k l.items [] [a] k1 ∧ LinesA (putA M l.name a) k1 r o ∧ outs = a :: o
theorem items_append {M : Str → Option AryP} : ∀ {p q : List Itm} {k k1 k2 : Nat} {st st1 st2 : List AryP}, ItemsA M k p st st1 k1 → ItemsA M k1 q st1 st2 k2 → ItemsA M k (p ++ q) st st2 k2
 | [], q, k, k1, k2, st, st1, st2, h1, h2 => by obtain ⟨rfl, rfl⟩ := h1; exact h2
 | it :: p, q, k, k1, k2, st, st1, st2, h1, h2 => by
  obtain ⟨s, m, t, a, g, h⟩ := h1
  exact ⟨s, m, t, a, g, items_append h h2⟩
theorem item_one {M : Str → Option AryP} {k k' t : Nat} {it : Itm} {st st' : List AryP} {a : AryP} (h : ItemA M k it st st' k' t a) : ItemsA M k [it] st st' k' := ⟨_, _, _, _, h, rfl, rfl⟩
def EvalTo (M : Str → Option AryP) (e : Ex) (a : AryP) (c : Nat) : Prop := ∀ k st, k + c ≤ 1048576 → ItemsA M k e.post st (a :: st) (k + c)
def InA (a : AryP) : Prop := (∀ x ∈ a.1, In64 x) ∧ ∀ x ∈ a.2, In64 x
theorem eval_num {M : Str → Option AryP} {n : Int} (hn : In64 n) : EvalTo M (.num [n]) ([], [n]) 1 := fun k st hk =>
 item_one (t := 0) (a := ([], [n])) ⟨rfl, hk, fun x hx => (by cases hx), fun x hx => by cases List.mem_singleton.1 hx; exact hn, rfl, rfl⟩
theorem eval_nam {M : Str → Option AryP} {s : Str} {a : AryP} (h : M s = some a) (ha : InA a) : EvalTo M (.nam s) a a.2.length := fun k st hk =>
 item_one (t := 0) (a := a) ⟨by show (M s).map (fun a => (0, a)) = _; rw [h]; rfl, hk, ha.1, ha.2, rfl, rfl⟩
theorem eval_mon {M : Str → Option AryP} {e : Ex} {a v : AryP} {c : Nat} {i : Itm} (h : EvalTo M e a c) (hv : ∀ st, topA M i (a :: st) = some (1, v)) (hi : InA v) : EvalTo M (.mon i e) v (c + v.2.length) := fun k st hk =>
 items_append (h k st (by omega)) (item_one (t := 1) (a := v) ⟨hv st, by omega, hi.1, hi.2, rfl, by omega⟩)
theorem eval_dy {M : Str → Option AryP} {e1 e2 : Ex} {a b v : AryP} {c1 c2 : Nat} {i : Itm} (h1 : EvalTo M e1 a c1) (h2 : EvalTo M e2 b c2) (hv : ∀ st, topA M i (b :: a :: st) = some (2, v)) (hi : InA v) : EvalTo M (.dy i e1 e2) v (c1 + c2 + v.2.length) := fun k st hk => by
 have g1 := h1 k st (by omega)
 have g2 := h2 (k + c1) (a :: st) (by omega)
 exact items_append (items_append g1 g2) (item_one (t := 2) (a := v) ⟨hv st, by omega, hi.1, hi.2, rfl, by omega⟩)
theorem top_mon {M : Str → Option AryP} {f : Int} {a : AryP} {s d : List Int} (h : monadA f a.1 a.2 = okA s d) (st : List AryP) : topA M ⟨3, f, [], []⟩ (a :: st) = some (1, (s, d)) := by
 show okO 1 (monadA f a.1 a.2) = _
 rw [h]
 rfl
theorem top_dy {M : Str → Option AryP} {f : Int} {a b : AryP} {s d : List Int} (h : dyadA f a.1 a.2 b.1 b.2 = okA s d) (st : List AryP) : topA M ⟨4, f, [], []⟩ (b :: a :: st) = some (2, (s, d)) := by
 show okO 2 (dyadA f a.1 a.2 b.1 b.2) = _
 rw [h]
 rfl
theorem top_fold {M : Str → Option AryP} {f : Int} {a : AryP} {s d : List Int} (h : foldA f a.1 a.2 = okA s d) (st : List AryP) : topA M ⟨5, f, [], []⟩ (a :: st) = some (1, (s, d)) := by
 show okO 1 (foldA f a.1 a.2) = _
 rw [h]
 rfl
theorem lines_cons {M : Str → Option AryP} {k c : Nat} {nm : Str} {e : Ex} {a : AryP} {r : List LinP} {o : List AryP} (h : EvalTo M e a c) (hk : k + c ≤ 1048576) (hr : LinesA (putA M nm a) (k + c) r o) : LinesA M k (⟨nm, e.post⟩ :: r) (a :: o) :=
 ⟨a, k + c, o, h k [] hk, hr, rfl⟩
def nmX : Str := [120]
def sidesIn (s : List Int) : List InpP := [⟨nmX, s.map fun n => ⟨[], n⟩⟩]
def inputX (s : List Int) : Str := kwIn ++ (32 :: (nmX ++ sidesX (s.map fun n => (⟨[], n⟩ : SidP)) [10]))
theorem insX_in (s : List Int) (t : Str) : insX (sidesIn s) t = inputX s ++ t := by
 unfold sidesIn inputX
 simp [insX, sidesX_app]
theorem in_right {s : List Int} (h4 : s.length ≤ 4) (hs : ∀ x ∈ s, 0 ≤ x ∧ x ≤ 65536) : ∀ x ∈ sidesIn s, InpR VV x := by
 intro x hx
 cases List.mem_singleton.1 hx
 refine ⟨show VV.name nmX = true by decide +kernel, by simpa using h4, fun d hd => ?_⟩
 obtain ⟨n, hn, rfl⟩ := List.mem_map.1 hd
 have := hs n hn
 refine .inl ⟨rfl, ?_⟩
 unfold in64B
 simp
 omega
theorem dec_len : ∀ (k n : Nat), n < 10 ^ (k + 1) → (decDigits n).length ≤ k + 1
 | 0, n, h => by rw [decDigits, dif_pos (by simpa using h)]; simp
 | k + 1, n, h => by
  rw [decDigits]
  split
  ·simp
  ·have := dec_len k (n / 10) (by rw [Nat.pow_succ] at h; omega)
   simp
   omega
theorem num_len {n : Int} (h0 : 0 ≤ n) (h1 : n ≤ 65536) : (numStr n).length ≤ 5 := by
 unfold numStr
 rw [if_neg (by omega)]
 exact dec_len 4 _ (by omega)
theorem sidesX_len : ∀ {s : List Int}, (∀ x ∈ s, 0 ≤ x ∧ x ≤ 65536) → ∀ t : Str, (sidesX (s.map fun n => (⟨[], n⟩ : SidP)) t).length ≤ 6 * s.length + t.length
 | [], _, t => by simp [sidesX]
 | n :: s, h, t => by
  have h1 := h n List.mem_cons_self
  have h2 := num_len h1.1 h1.2
  have ih := sidesX_len (fun x hx => h x (List.mem_cons_of_mem _ hx)) t
  show (32 :: (spellT (sideT ⟨[], n⟩) ++ sidesX (s.map fun n => (⟨[], n⟩ : SidP)) t)).length ≤ _
  have e : spellT (sideT ⟨[], n⟩) = numStr n := rfl
  rw [e]
  simp only [List.length_cons, List.length_append]
  omega
theorem inputX_len {s : List Int} (h4 : s.length ≤ 4) (h : ∀ x ∈ s, 0 ≤ x ∧ x ≤ 65536) : (inputX s).length ≤ 40 := by
 have := sidesX_len h [10]
 unfold inputX kwIn nmX
 simp only [List.length_cons, List.length_append, List.length_nil] at *
 omega
def fourW (f : Int) : Str := if f = 1 then [43] else if f = 3 then [42] else if f = 6 then [109, 105, 110] else [109, 97, 120]
theorem four_vi {f : Int} (h : Four f) (n : Int) (hn : n = 5 ∨ n = 6) : VI VV false ⟨n, f, [], []⟩ := by
 have h2 : VV.two (fourW f) = f ∧ f ≠ 0 ∧ f ≤ 17 := by rcases h with rfl | rfl | rfl | rfl <;> decide
 exact ⟨rfl, rfl, fourW f, .inr (.inr (.inl ⟨hn, rfl, h2⟩))⟩
end Go.Proofs.YtokghjnkfabgiaaGreatDoor

namespace Go.Proofs.YtokghjnkfabgiaaGreatDoor
open Go.RowKit Go.Lib

def wfn (p : Nat) : Int := match p % 9 with
 | 0 => 1 | 1 => 2 | 2 => 3 | 3 => 7 | 4 => 10 | 5 => 5 | 6 => 2 | 7 => 3 | _ => 5
def wverb (p : Nat) : Str := match p % 9 with
 | 0 => [43] | 1 => [45] | 2 => [42] | 3 => [109, 97, 120] | 4 => [60] | 5 => [124] | 6 => [45] | 7 => [42] | _ => [124]
def wnum (p : Nat) : Int := ((p / 16 : Nat) : Int) - 5
def wrapE (p : Nat) (e : Ex) : Ex := if p % 9 < 6 then .dy ⟨4, wfn p, [], []⟩ (.num [wnum p]) e else .mon ⟨3, wfn p, [], []⟩ e
def wrapS (p : Nat) (s : Str) : Str := if p % 9 < 6 then numStr (wnum p) ++ (32 :: (wverb p ++ (32 :: s))) else wverb p ++ (32 :: s)
def wrapG (p : Nat) (x : Int) : Int := if p % 9 < 6 then dyv (wfn p) (wnum p) x else (monadF (wfn p) x).1
theorem nine (p : Nat) : p % 9 = 0 ∨ p % 9 = 1 ∨ p % 9 = 2 ∨ p % 9 = 3 ∨ p % 9 = 4 ∨ p % 9 = 5 ∨ p % 9 = 6 ∨ p % 9 = 7 ∨ p % 9 = 8 := by omega
theorem wrap_two {p : Nat} (h : p % 9 < 6) : VI VV true ⟨4, wfn p, [], []⟩ ∧ (vstrS LL ⟨4, wfn p, [], []⟩).1 = wverb p ∧ takes (wfn p) true = true ∧ (∀ a b, refusesB (wfn p) a b = false) ∧ wfn p ≤ 17 := by
 have hv : VV.two (wverb p) = wfn p ∧ wfn p ≠ 0 ∧ (vstrS LL ⟨4, wfn p, [], []⟩).1 = wverb p ∧ takes (wfn p) true = true ∧ (∀ a b, refusesB (wfn p) a b = false) ∧ wfn p ≤ 17 := by
  unfold wfn wverb
  rcases nine p with e | e | e | e | e | e | e | e | e <;> rw [e] at h ⊢ <;> first | exact absurd h (by decide) | exact ⟨by decide, by decide, by decide, by decide, fun _ _ => rfl, by decide⟩
 exact ⟨⟨rfl, rfl, wverb p, .inr (.inl ⟨rfl, rfl, hv.1, hv.2.1⟩)⟩, hv.2.2⟩
theorem wrap_one {p : Nat} (h : ¬ p % 9 < 6) : VI VV false ⟨3, wfn p, [], []⟩ ∧ (vstrS LL ⟨3, wfn p, [], []⟩).1 = wverb p ∧ takes (wfn p) false = true ∧ (∀ a, (monadF (wfn p) a).2 = 0) ∧ wfn p ≤ 17 := by
 have hv : VV.one (wverb p) = wfn p ∧ wfn p ≠ 0 ∧ (vstrS LL ⟨3, wfn p, [], []⟩).1 = wverb p ∧ takes (wfn p) false = true ∧ (∀ a, (monadF (wfn p) a).2 = 0) ∧ wfn p ≤ 17 := by
  unfold wfn wverb
  rcases nine p with e | e | e | e | e | e | e | e | e <;> rw [e] at h ⊢ <;> first | exact absurd (by decide) h | exact ⟨by decide, by decide, by decide, by decide, fun _ => rfl, by decide⟩
 exact ⟨⟨rfl, rfl, wverb p, .inl ⟨rfl, rfl, hv.1, hv.2.1⟩⟩, hv.2.2⟩
theorem text_wrap (p : Nat) (e : Ex) : textE LL (wrapE p e) = wrapS p (textE LL e) := by
 unfold wrapE wrapS
 by_cases h : p % 9 < 6
 ·rw [if_pos h, if_pos h]
  show numStr (wnum p) ++ (32 :: ((vstrS LL ⟨4, wfn p, [], []⟩).1 ++ (32 :: textE LL e))) = _
  rw [(wrap_two h).2.1]
 ·rw [if_neg h, if_neg h]
  show (vstrS LL ⟨3, wfn p, [], []⟩).1 ++ (32 :: textE LL e) = _
  rw [(wrap_one h).2.1]
theorem wnum_bd {p : Nat} (h : p < 256) : -5 ≤ wnum p ∧ wnum p ≤ 10 := by unfold wnum; omega
theorem wrap_fine {p : Nat} (hp : p < 256) {e : Ex} (he : e.fine VV (fun n => in64B n = true)) : (wrapE p e).fine VV (fun n => in64B n = true) ∧ (wrapE p e).len ≤ e.len + 2 ∧ (wrapE p e).nest = e.nest := by
 have hb := wnum_bd hp
 unfold wrapE
 by_cases h : p % 9 < 6
 ·rw [if_pos h]
  refine ⟨⟨(wrap_two h).1, ⟨by simp, fun x hx => ?_⟩, he⟩, ?_, ?_⟩
  ·cases List.mem_singleton.1 hx
   unfold in64B
   simp
   omega
  ·simp [Ex.len, Ex.plain, vlen]; omega
  ·simp [Ex.nest, Ex.plain]
 ·rw [if_neg h]
  exact ⟨⟨(wrap_one h).1, he⟩, by simp [Ex.len, vlen]; omega, rfl⟩
theorem wnum_len {p : Nat} (h : p < 256) : (numStr (wnum p)).length ≤ 2 := by
 have hb := wnum_bd h
 unfold numStr
 split
 ·have := dec_len 0 (wnum p).natAbs (by omega)
  simp
  omega
 ·exact dec_len 1 _ (by omega)
theorem wverb_len (p : Nat) : (wverb p).length ≤ 3 := by
 unfold wverb
 rcases nine p with e | e | e | e | e | e | e | e | e <;> rw [e] <;> decide
theorem wrapS_len {p : Nat} (h : p < 256) (s : Str) : (wrapS p s).length ≤ s.length + 7 := by
 have h1 := wnum_len h
 have h2 := wverb_len p
 unfold wrapS
 split
 ·simp only [List.length_cons, List.length_append]; omega
 ·simp only [List.length_cons, List.length_append]; omega
theorem right_nil1M (n : Int) : right [] [n] = true := by unfold right size; rfl
theorem pairs_repM (f n : Int) (s : List Int) (d : List Int) (h : ∀ a b, refusesB f a b = false) : pairsA f (List.replicate d.length n) d s = okA s (d.map (dyv f n)) := by
 unfold pairsA
 have e2 : ∀ d : List Int, List.zipWith (dyv f) (List.replicate d.length n) d = d.map (dyv f n) := fun d => by
  induction d with
  | nil => rfl
  | cons x d ih => simp only [List.length_cons, List.replicate_succ, List.zipWith_cons_cons, List.map_cons, ih]
 rw [e2, if_neg]
 simp [h]
theorem wrap_two_val {p : Nat} (h : p % 9 < 6) {s d : List Int} (hr : right s d = true) : dyadA (wfn p) [] [wnum p] s d = okA s (d.map (wrapG p)) := by
 obtain ⟨-, -, ht, hf, h17⟩ := wrap_two h
 have hg : wrapG p = dyv (wfn p) (wnum p) := by funext x; unfold wrapG; rw [if_pos h]
 rw [hg]
 unfold dyadA
 rw [right_nil1M, hr, if_pos (by rfl), if_neg (by omega), if_neg (by omega), if_neg (by omega), if_neg (by omega), if_pos ht]
 by_cases hs : [] = s
 ·subst hs
  rw [if_pos rfl]
  have hd : d.length = 1 := by
   have := (right_good hr).2.prod
   simp [prodL] at this
   omega
  have e : ([wnum p] : List Int) = List.replicate d.length (wnum p) := by rw [hd]; rfl
  rw [e]
  exact pairs_repM _ _ _ _ hf
 ·rw [if_neg hs, if_pos (show ([] : List Int).length = 0 from rfl)]
  exact pairs_repM _ _ _ _ hf
theorem wrap_one_val {p : Nat} (h : ¬ p % 9 < 6) {s d : List Int} (hr : right s d = true) : monadA (wfn p) s d = okA s (d.map (wrapG p)) := by
 obtain ⟨-, -, ht, hf, h17⟩ := wrap_one h
 have hg : wrapG p = fun x => (monadF (wfn p) x).1 := by funext x; unfold wrapG; rw [if_neg h]
 rw [hg]
 unfold monadA
 rw [if_pos hr, if_neg (by omega), if_neg (by omega), if_neg (by omega), if_neg (by omega), if_neg (by omega), if_pos ht, if_neg]
 simp [hf]
theorem wrapG_in {p : Nat} (hp : p < 256) {x : Int} (hx : In64 x) : In64 (wrapG p x) := by
 have hb := wnum_bd hp
 unfold wrapG
 split
 ·rename_i h
  exact dyv_in (by unfold In64; omega) hx ((wrap_two h).2.2.2.1 _ _)
 ·exact monad_in hx
theorem map_in {p : Nat} (hp : p < 256) {d : List Int} (hd : ∀ x ∈ d, In64 x) : ∀ x ∈ d.map (wrapG p), In64 x := fun x hx => by
 obtain ⟨y, hy, rfl⟩ := List.mem_map.1 hx
 exact wrapG_in hp (hd y hy)
theorem wrap_eval {M : Str → Option AryP} {p : Nat} (hp : p < 256) {e : Ex} {s d : List Int} {c : Nat} (h : EvalTo M e (s, d) c) (hr : right s d = true) (hs : ∀ x ∈ s, In64 x) (hd : ∀ x ∈ d, In64 x) :
  ∃ c', c' ≤ c + 1 + d.length ∧ EvalTo M (wrapE p e) (s, d.map (wrapG p)) c' := by
 have hb := wnum_bd hp
 unfold wrapE
 by_cases h6 : p % 9 < 6
 ·rw [if_pos h6]
  have := eval_dy (i := ⟨4, wfn p, [], []⟩) (v := (s, d.map (wrapG p))) (eval_num (M := M) (n := wnum p) (by unfold In64; omega)) h (top_dy (wrap_two_val h6 hr)) ⟨hs, map_in hp hd⟩
  exact ⟨_, by simp only [List.length_map]; omega, this⟩
 ·rw [if_neg h6]
  have := eval_mon (i := ⟨3, wfn p, [], []⟩) (v := (s, d.map (wrapG p))) h (top_mon (wrap_one_val h6 hr)) ⟨hs, map_in hp hd⟩
  exact ⟨_, by simp only [List.length_map]; omega, this⟩
def valW (l : List Nat) (d : List Int) : List Int := l.foldl (fun d p => d.map (wrapG p)) d
def exprE (e : Ex) (l : List Nat) : Ex := l.foldl (fun e p => wrapE p e) e
def exprS (s : Str) (l : List Nat) : Str := l.foldl (fun s p => wrapS p s) s
def nmI (i : Nat) : Str := 121 :: numStr (i : Int)
def namL : Nat → Str → List Nat → List (Str × Ex)
 | _, _, [] => []
 | i, last, p :: r => (nmI i, wrapE p (.nam last)) :: namL (i + 1) (nmI i) r
def lastN : Nat → Str → List Nat → Str
 | _, last, [] => last
 | i, _, _ :: r => lastN (i + 1) (nmI i) r
def namedT (s : List Int) (l : List Nat) : PrgT := ⟨sidesIn s, namL 0 nmX l, .nam (lastN 0 nmX l)⟩
def exprT (s : List Int) (l : List Nat) : PrgT := ⟨sidesIn s, [], exprE (.nam nmX) l⟩
theorem expr_eval {M : Str → Option AryP} {s : List Int} (hs : ∀ x ∈ s, In64 x) : ∀ (l : List Nat) (e : Ex) (d : List Int) (c : Nat), (∀ p ∈ l, p < 256) → EvalTo M e (s, d) c → right s d = true → (∀ x ∈ d, In64 x) →
  ∃ c', c' ≤ c + l.length * (d.length + 1) ∧ EvalTo M (exprE e l) (s, valW l d) c' ∧ (valW l d).length = d.length ∧ (∀ x ∈ valW l d, In64 x)
 | [], e, d, c, _, h, hr, hd => ⟨c, by simp, h, rfl, hd⟩
 | p :: l, e, d, c, hp, h, hr, hd => by
  obtain ⟨c1, h1, h2⟩ := wrap_eval (hp p List.mem_cons_self) h hr hs hd
  have hl : (d.map (wrapG p)).length = d.length := by simp
  obtain ⟨c2, h3, h4, h5, h6⟩ := expr_eval hs l _ _ _ (fun q hq => hp q (List.mem_cons_of_mem _ hq)) h2 (right_sameM hr hl) (map_in (hp p List.mem_cons_self) hd)
  rw [hl] at h3 h5
  refine ⟨c2, ?_, h4, h5, h6⟩
  rw [List.length_cons, Nat.succ_mul]
  omega
theorem named_eval {s : List Int} (hs : ∀ x ∈ s, In64 x) : ∀ (l : List Nat) (i : Nat) (last : Str) (M : Str → Option AryP) (k : Nat) (d : List Int), (∀ p ∈ l, p < 256) → M last = some (s, d) → right s d = true → (∀ x ∈ d, In64 x) → k + l.length * (2 * d.length + 1) + d.length ≤ 1048576 →
  ∃ o, LinesA M k ((namL i last l).map (fun x => (⟨x.1, x.2.post⟩ : LinP)) ++ [⟨[], (Ex.nam (lastN i last l)).post⟩]) (o ++ [(s, valW l d)]) ∧ o.length = l.length ∧ (∀ a ∈ o, a.1 = s ∧ a.2.length = d.length) ∧ (valW l d).length = d.length
 | [], i, last, M, k, d, _, h, hr, hd, hk => by
  refine ⟨[], ?_, rfl, fun a h => (by cases h), rfl⟩
  exact lines_cons (eval_nam h ⟨hs, hd⟩) (show k + d.length ≤ 1048576 by rw [List.length_nil, Nat.zero_mul] at hk; omega) rfl
 | p :: l, i, last, M, k, d, hp, h, hr, hd, hk => by
  obtain ⟨c1, h1, h2⟩ := wrap_eval (hp p List.mem_cons_self) (eval_nam h ⟨hs, hd⟩) hr hs hd
  have hl : (d.map (wrapG p)).length = d.length := by simp
  rw [List.length_cons, Nat.succ_mul] at hk
  dsimp only at h1
  obtain ⟨o, h3, h4, h5, h6⟩ := named_eval hs l (i + 1) (nmI i) (putA M (nmI i) (s, d.map (wrapG p))) (k + c1) (d.map (wrapG p)) (fun q hq => hp q (List.mem_cons_of_mem _ hq)) (by unfold putA; rw [if_pos rfl]) (right_sameM hr hl) (map_in (hp p List.mem_cons_self) hd) (by rw [hl]; omega)
  exact ⟨(s, d.map (wrapG p)) :: o, lines_cons h2 (by omega) h3, by rw [List.length_cons, List.length_cons, h4], fun a ha => by
   rcases List.mem_cons.1 ha with e | e
   ·rw [e]; exact ⟨rfl, hl⟩
   ·have := h5 a e; rw [hl] at this; exact this, by rw [← hl]; exact h6⟩
theorem expr_text : ∀ (l : List Nat) (e : Ex), textE LL (exprE e l) = exprS (textE LL e) l
 | [], e => rfl
 | p :: l, e => by
  have := expr_text l (wrapE p e)
  rw [text_wrap p e] at this
  exact this
theorem expr_fine : ∀ (l : List Nat) (e : Ex), (∀ p ∈ l, p < 256) → e.fine VV (fun n => in64B n = true) → (exprE e l).fine VV (fun n => in64B n = true) ∧ (exprE e l).len ≤ e.len + 2 * l.length ∧ (exprE e l).nest = e.nest
 | [], e, _, h => ⟨h, by simp [exprE], rfl⟩
 | p :: l, e, hp, h => by
  obtain ⟨h1, h2, h3⟩ := wrap_fine (hp p List.mem_cons_self) h
  obtain ⟨h4, h5, h6⟩ := expr_fine l _ (fun q hq => hp q (List.mem_cons_of_mem _ hq)) h1
  refine ⟨h4, ?_, by rw [← h3]; exact h6⟩
  have : (exprE e (p :: l)).len ≤ (wrapE p e).len + 2 * l.length := h5
  rw [List.length_cons]
  omega
theorem nmX_name : VV.name nmX = true := by decide +kernel
theorem nmI_name : ∀ i : Nat, i < 12 → VV.name (nmI i) = true := by decide +kernel
theorem nmI_len {i : Nat} (h : i < 12) : (nmI i).length ≤ 3 := by
 have : (numStr (i : Int)).length ≤ 2 := by
  unfold numStr
  rw [if_neg (by omega)]
  exact dec_len 1 _ (by omega)
 unfold nmI
 simp
 omega
theorem expr_fineT {s : List Int} {l : List Nat} (h4 : s.length ≤ 4) (hs : ∀ x ∈ s, 0 ≤ x ∧ x ≤ 65536) (hl : l.length ≤ 12) (hp : ∀ p ∈ l, p < 256) : FineT VV (exprT s l) := by
 obtain ⟨h1, h2, h3⟩ := expr_fine l (.nam nmX) hp nmX_name
 refine ⟨in_right h4 hs, fun x hx => (by cases hx), ⟨h1, ?_, ?_⟩, show (1 + 0 + 1 : Nat) ≤ 64 by decide⟩
 ·have : (Ex.nam nmX).len = 1 := rfl
  show (exprE (.nam nmX) l).len ≤ 255
  omega
 ·show (exprE (.nam nmX) l).nest ≤ 32
  rw [h3]
  decide
theorem namL_fine : ∀ (l : List Nat) (i : Nat) (last : Str), (∀ p ∈ l, p < 256) → i + l.length ≤ 12 → VV.name last = true → (∀ x ∈ namL i last l, VV.name x.1 = true ∧ ExR VV 254 x.2) ∧ VV.name (lastN i last l) = true ∧ (namL i last l).length = l.length
 | [], i, last, _, _, h => ⟨fun x hx => (by cases hx), h, rfl⟩
 | p :: l, i, last, hp, hi, h => by
  rw [List.length_cons] at hi
  have hn := nmI_name i (by omega)
  obtain ⟨h1, h2, h3⟩ := namL_fine l (i + 1) (nmI i) (fun q hq => hp q (List.mem_cons_of_mem _ hq)) (by omega) hn
  obtain ⟨g1, g2, g3⟩ := wrap_fine (e := .nam last) (hp p List.mem_cons_self) h
  refine ⟨fun x hx => ?_, h2, by rw [namL, List.length_cons, h3, List.length_cons]⟩
  rcases List.mem_cons.1 hx with e | e
  ·rw [e]
   refine ⟨hn, g1, ?_, by rw [g3]; exact Nat.zero_le _⟩
   have : (Ex.nam last).len = 1 := rfl
   show (wrapE p (.nam last)).len ≤ 254
   omega
  ·exact h1 x e
theorem named_fineT {s : List Int} {l : List Nat} (h4 : s.length ≤ 4) (hs : ∀ x ∈ s, 0 ≤ x ∧ x ≤ 65536) (hl : l.length ≤ 12) (hp : ∀ p ∈ l, p < 256) : FineT VV (namedT s l) := by
 obtain ⟨h1, h2, h3⟩ := namL_fine l 0 nmX hp (by omega) nmX_name
 refine ⟨in_right h4 hs, h1, ⟨h2, show (1 : Nat) ≤ 255 by decide, show (0 : Nat) ≤ 32 by decide⟩, ?_⟩
 show (sidesIn s).length + (namL 0 nmX l).length + 1 ≤ 64
 rw [h3]
 have : (sidesIn s).length = 1 := rfl
 omega
theorem linesX_append (L : Spl) : ∀ (a b : List (Str × Ex)) (s : Str), linesX L (a ++ b) s = linesX L a (linesX L b s)
 | [], b, s => rfl
 | x :: a, b, s => by simp [linesX, linesX_append L a b s]
theorem linesX_end (L : Spl) (a : List (Str × Ex)) (s : Str) : linesX L a s = linesX L a [] ++ s := by rw [linesX_app, List.nil_append]
theorem namL_snoc : ∀ (l : List Nat) (i : Nat) (last : Str) (p : Nat), namL i last (l ++ [p]) = namL i last l ++ [(nmI (i + l.length), wrapE p (.nam (lastN i last l)))] ∧ lastN i last (l ++ [p]) = nmI (i + l.length)
 | [], i, last, p => ⟨rfl, rfl⟩
 | q :: l, i, last, p => by
  obtain ⟨h1, h2⟩ := namL_snoc l (i + 1) (nmI i) p
  have e : i + 1 + l.length = i + (q :: l).length := by rw [List.length_cons]; omega
  rw [e] at h1 h2
  refine ⟨?_, h2⟩
  show (nmI i, wrapE q (.nam last)) :: namL (i + 1) (nmI i) (l ++ [p]) = _
  rw [h1]
  rfl
def namS (s : List Int) (l : List Nat) : Str := inputX s ++ linesX LL (namL 0 nmX l) []
theorem namS_nil (s : List Int) : namS s [] = inputX s := by unfold namS namL linesX; simp
theorem namS_snoc (s : List Int) (l : List Nat) (p : Nat) : namS s (l ++ [p]) = namS s l ++ (nmI l.length ++ ([58, 32] ++ (wrapS p (lastN 0 nmX l) ++ [10]))) ∧ lastN 0 nmX (l ++ [p]) = nmI l.length := by
 obtain ⟨h1, h2⟩ := namL_snoc l 0 nmX p
 rw [Nat.zero_add] at h1 h2
 refine ⟨?_, h2⟩
 have ht := text_wrap p (.nam (lastN 0 nmX l))
 have ht2 : textE LL (.nam (lastN 0 nmX l)) = lastN 0 nmX l := rfl
 rw [ht2] at ht
 unfold namS
 rw [h1, linesX_append, linesX_end LL (namL 0 nmX l) (linesX LL _ []), linesX, ht]
 simp [linesX]
theorem named_text (s : List Int) (l : List Nat) : (namedT s l).text2 LL = namS s l ++ ([111, 117, 116, 32] ++ lastN 0 nmX l) := by
 unfold PrgT.text2 namedT namS
 dsimp only
 rw [insX_in, linesX_end]
 simp [kwOut]
 rfl
theorem expr_textT (s : List Int) (l : List Nat) : (exprT s l).text2 LL = inputX s ++ ([111, 117, 116, 32] ++ exprS nmX l) := by
 unfold PrgT.text2 exprT
 dsimp only
 rw [insX_in, expr_text l (.nam nmX)]
 rfl
theorem exprS_len : ∀ (l : List Nat) (s : Str), (∀ p ∈ l, p < 256) → (exprS s l).length ≤ s.length + 7 * l.length
 | [], s, _ => by simp [exprS]
 | p :: l, s, hp => by
  have h1 := wrapS_len (hp p List.mem_cons_self) s
  have h2 := exprS_len l (wrapS p s) fun q hq => hp q (List.mem_cons_of_mem _ hq)
  have e : exprS s (p :: l) = exprS (wrapS p s) l := rfl
  rw [e, List.length_cons]
  omega
theorem namX_len : ∀ (l : List Nat) (i : Nat) (last : Str), (∀ p ∈ l, p < 256) → i + l.length ≤ 12 → last.length ≤ 3 → (linesX LL (namL i last l) []).length ≤ 20 * l.length ∧ (lastN i last l).length ≤ 3
 | [], i, last, _, _, h => ⟨by simp [namL, linesX], h⟩
 | p :: l, i, last, hp, hi, h => by
  rw [List.length_cons] at hi
  have hn := nmI_len (i := i) (by omega)
  obtain ⟨h1, h2⟩ := namX_len l (i + 1) (nmI i) (fun q hq => hp q (List.mem_cons_of_mem _ hq)) (by omega) hn
  have ht := text_wrap p (.nam last)
  have ht2 : textE LL (.nam last) = last := rfl
  rw [ht2] at ht
  have h3 := wrapS_len (hp p List.mem_cons_self) last
  refine ⟨?_, h2⟩
  show (linesX LL ((nmI i, wrapE p (.nam last)) :: namL (i + 1) (nmI i) l) []).length ≤ _
  rw [linesX, ht]
  simp only [List.length_cons, List.length_append]
  omega
theorem namS_len {s : List Int} {l : List Nat} (h4 : s.length ≤ 4) (hs : ∀ x ∈ s, 0 ≤ x ∧ x ≤ 65536) (hl : l.length ≤ 12) (hp : ∀ p ∈ l, p < 256) : (namS s l).length ≤ 300 ∧ (lastN 0 nmX l).length ≤ 3 := by
 have h1 := inputX_len h4 hs
 obtain ⟨h2, h3⟩ := namX_len l 0 nmX hp (by omega) (by decide)
 refine ⟨?_, h3⟩
 unfold namS
 rw [List.length_append]
 omega
end Go.Proofs.YtokghjnkfabgiaaGreatDoor
