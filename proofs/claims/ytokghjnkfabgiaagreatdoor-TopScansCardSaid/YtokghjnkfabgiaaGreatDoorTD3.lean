import Derived.Test.YtokghjnkfabgiaaGreatDoorTD2
set_option linter.unusedVariables false
set_option linter.unusedSimpArgs false
set_option maxRecDepth 100000
namespace Go.Proofs.YtokghjnkfabgiaaGreatDoor
open Go.Lib

structure SidP where
 name : Str
 n : Int
structure InpP where
 name : Str
 sides : List SidP
structure LinP where
 name : Str
 items : List Itm
structure PrgP where
 inputs : List InpP
 lines : List LinP
def kwIn : Str := [105, 110]
def kwOut : Str := [111, 117, 116]
def sidesP (V : Voc) : List Tk → List SidP → Option (List SidP)
 | [], acc => some acc
 | t :: r, acc => if t.kind ≠ 2 ∧ (t.kind ≠ 1 ∨ V.name t.word = false) then none else if acc.length = 4 then none else sidesP V r (acc ++ [⟨t.word, t.n⟩])
def inputP (V : Voc) : List Tk → Option InpP
 | [] => none
 | t :: r => if t.kind ≠ 1 ∨ V.name t.word = false then none else (sidesP V r []).map fun s => ⟨t.word, s⟩
def isWord (t : Tk) (w : Str) : Bool := t.kind == 1 && decide (t.word = w)
def overP (p : PrgP) : Bool := match p.lines.getLast? with
 | some x => decide (x.name = [])
 | none => false
def intoQ (V : Voc) (p : PrgP) (n : Nat) (over : Bool) (t : Tk) (r : List Tk) : Option PrgP :=
 if n = 64 then none
 else if 256 < r.length + 1 then none
 else if over = true ∨ (isWord t kwIn = true ∧ p.lines ≠ []) then none
 else if isWord t kwIn = true then (inputP V r).map fun x => ⟨p.inputs ++ [x], p.lines⟩
 else if isWord t kwOut = false ∧ (t.kind ≠ 1 ∨ V.name t.word = false) then none
 else if isWord t kwOut = true then (exprP V r).map fun l => ⟨p.inputs, p.lines ++ [⟨[], l⟩]⟩
 else if isSign (headT r) 58 = false then none
 else (exprP V r.tail).map fun l => ⟨p.inputs, p.lines ++ [⟨t.word, l⟩]⟩
def takeL : List Tk → List Tk × List Tk
 | [] => ([], [])
 | t :: r => if t.kind = 4 then ([], r) else (t :: (takeL r).1, (takeL r).2)
def parseK (V : Voc) : Nat → List Tk → PrgP → Nat → Option PrgP
 | 0, _, _, _ => none
 | _ + 1, [], p, _ => if overP p = true then some p else none
 | f + 1, u :: q, p, n => match takeL (u :: q) with
  | ([], r) => parseK V f r p n
  | (t :: l, r) => (intoQ V p n (overP p) t l).bind fun p' => parseK V f r p' (n + 1)
def parseP (V : Voc) (l : List Tk) : Option PrgP := parseK V (l.length + 1) l ⟨[], []⟩ 0
def SideR (V : Voc) (d : SidP) : Prop := (d.name = [] ∧ in64B d.n = true) ∨ (V.name d.name = true ∧ d.n = 0)
def InpR (V : Voc) (x : InpP) : Prop := V.name x.name = true ∧ x.sides.length ≤ 4 ∧ ∀ d ∈ x.sides, SideR V d
def ItmR (V : Voc) (most : Nat) (l : List Itm) : Prop := ∃ e : Ex, l = e.post ∧ e.fine V (fun n => in64B n = true) ∧ e.len ≤ most ∧ e.nest ≤ 32
structure PreR (V : Voc) (p : PrgP) (n : Nat) : Prop where
 inputs : ∀ x ∈ p.inputs, InpR V x
 named : ∀ x ∈ p.lines, V.name x.name = true ∧ ItmR V 254 x.items
 len : p.inputs.length + p.lines.length = n
 le : n ≤ 64
structure RightP (V : Voc) (p : PrgP) : Prop where
 inputs : ∀ x ∈ p.inputs, InpR V x
 lines : ∃ a l, p.lines = a ++ [⟨[], l⟩] ∧ (∀ x ∈ a, V.name x.name = true ∧ ItmR V 254 x.items) ∧ ItmR V 255 l
 le : p.inputs.length + p.lines.length ≤ 64
theorem sides_right {V : Voc} : ∀ (r : List Tk) (acc l : List SidP), sidesP V r acc = some l → (∀ t ∈ r, RightT t) → (∀ d ∈ acc, SideR V d) → acc.length ≤ 4 → l.length ≤ 4 ∧ ∀ d ∈ l, SideR V d
 | [], acc, l, h, _, ha, hl => by cases h; exact ⟨hl, ha⟩
 | t :: r, acc, l, h, hr, ha, hl => by
  rw [sidesP] at h
  by_cases h1 : t.kind ≠ 2 ∧ (t.kind ≠ 1 ∨ V.name t.word = false)
  ·rw [if_pos h1] at h; cases h
  rw [if_neg h1] at h
  by_cases h4 : acc.length = 4
  ·rw [if_pos h4] at h; cases h
  rw [if_neg h4] at h
  refine sides_right r _ l h (fun x hx => hr x (List.mem_cons_of_mem _ hx)) (fun d hd => ?_) (by simp; omega)
  rcases List.mem_append.1 hd with hd | hd
  ·exact ha d hd
  ·cases List.mem_singleton.1 hd
   have ht := hr t List.mem_cons_self
   by_cases h2 : t.kind = 2
   ·rcases ht with ⟨hk, _⟩ | ⟨_, hw, hi⟩ | ⟨hk, _⟩ | hk
    ·omega
    ·exact .inl ⟨hw, hi⟩
    ·omega
    ·rw [hk] at h2; exact absurd h2 (by decide)
   ·have h3 : t.kind = 1 ∧ V.name t.word = true := by
     refine ⟨?_, ?_⟩
     ·exact Classical.byContradiction fun e => h1 ⟨h2, .inl e⟩
     ·cases hv : V.name t.word with
      | true => rfl
      | false => exact absurd ⟨h2, .inr hv⟩ h1
    rcases ht with ⟨_, hn, _⟩ | ⟨hk, _⟩ | ⟨hk, _⟩ | hk
    ·exact .inr ⟨h3.2, hn⟩
    ·omega
    ·omega
    ·rw [hk] at h3; exact absurd h3.1 (by decide)
theorem over_named {V : Voc} (h0 : V.name [] = false) {p : PrgP} (h : ∀ x ∈ p.lines, V.name x.name = true ∧ ItmR V 254 x.items) : overP p = false := by
 unfold overP
 cases hg : p.lines.getLast? with
 | none => rfl
 | some x =>
  have := (h x (List.mem_of_getLast? hg)).1
  simp only [decide_eq_false_iff_not]
  intro e
  rw [e, h0] at this
  cases this
theorem over_out (i : List InpP) (a : List LinP) (l : List Itm) : overP ⟨i, a ++ [⟨[], l⟩]⟩ = true := by
 unfold overP
 simp
theorem into_right {V : Voc} (h0 : V.name [] = false) {p p' : PrgP} {n : Nat} {t : Tk} {r : List Tk} (h : intoQ V p n (overP p) t r = some p') (hp : PreR V p n) (hr : ∀ x ∈ r, RightT x) : PreR V p' (n + 1) ∨ RightP V p' := by
 have hnum : ∀ {q : List Tk}, (∀ x ∈ q, RightT x) → ∀ x ∈ q, x.kind = 2 → in64B x.n = true := fun hq x hx hk => by
  rcases hq x hx with ⟨h, _⟩ | ⟨_, _, h⟩ | ⟨h, _⟩ | h
  ·omega
  ·exact h
  ·omega
  ·rw [h] at hk; exact absurd hk (by decide)
 have hlen := hp.len
 have hle := hp.le
 unfold intoQ at h
 by_cases h1 : n = 64
 ·rw [if_pos h1] at h; cases h
 rw [if_neg h1] at h
 by_cases h2 : 256 < r.length + 1
 ·rw [if_pos h2] at h; cases h
 rw [if_neg h2] at h
 by_cases h3 : overP p = true ∨ (isWord t kwIn = true ∧ p.lines ≠ [])
 ·rw [if_pos h3] at h; cases h
 rw [if_neg h3] at h
 by_cases h4 : isWord t kwIn = true
 ·rw [if_pos h4] at h
  cases hi : inputP V r with
  | none => rw [hi] at h; cases h
  | some x =>
   rw [hi] at h
   cases h
   cases r with
   | nil => cases hi
   | cons u r =>
    change (if u.kind ≠ 1 ∨ V.name u.word = false then none else (sidesP V r []).map fun s => (⟨u.word, s⟩ : InpP)) = some x at hi
    by_cases h5 : u.kind ≠ 1 ∨ V.name u.word = false
    ·rw [if_pos h5] at hi; cases hi
    rw [if_neg h5] at hi
    cases hs : sidesP V r [] with
    | none => rw [hs] at hi; cases hi
    | some l =>
     rw [hs] at hi
     cases hi
     obtain ⟨g1, g2⟩ := sides_right r [] l hs (fun x hx => hr x (List.mem_cons_of_mem _ hx)) (fun d hd => by cases hd) (by decide)
     refine .inl ⟨fun x hx => ?_, hp.named, ?_, by omega⟩
     ·rcases List.mem_append.1 hx with hx | hx
      ·exact hp.inputs x hx
      ·cases List.mem_singleton.1 hx
       refine ⟨?_, g1, g2⟩
       cases hv : V.name u.word with
       | true => rfl
       | false => exact absurd (.inr hv) h5
     ·simp only [List.length_append, List.length_cons, List.length_nil]
      omega
 rw [if_neg h4] at h
 by_cases h5 : isWord t kwOut = false ∧ (t.kind ≠ 1 ∨ V.name t.word = false)
 ·rw [if_pos h5] at h; cases h
 rw [if_neg h5] at h
 by_cases h6 : isWord t kwOut = true
 ·rw [if_pos h6] at h
  cases hx : exprP V r with
  | none => rw [hx] at h; cases h
  | some l =>
   rw [hx] at h
   cases h
   obtain ⟨e, e1, e2, e3, e4⟩ := expr_tree (P := fun n => in64B n = true) hx (hnum hr)
   refine .inr ⟨hp.inputs, ⟨p.lines, l, rfl, hp.named, e, e1, e2, by omega, e4⟩, ?_⟩
   simp only [List.length_append, List.length_cons, List.length_nil]
   omega
 rw [if_neg h6] at h
 by_cases h7 : isSign (headT r) 58 = false
 ·rw [if_pos h7] at h; cases h
 rw [if_neg h7] at h
 cases hx : exprP V r.tail with
 | none => rw [hx] at h; cases h
 | some l =>
  rw [hx] at h
  cases h
  have hrt : ∀ x ∈ r.tail, RightT x := fun x hx => hr x (List.mem_of_mem_tail hx)
  obtain ⟨e, e1, e2, e3, e4⟩ := expr_tree (P := fun n => in64B n = true) hx (hnum hrt)
  have hrl : r.tail.length + 1 = r.length := by
   cases r with
   | nil => exact absurd (by decide) h7
   | cons u r => rfl
  have hv : V.name t.word = true := by
   cases hv : V.name t.word with
   | true => rfl
   | false => exact absurd ⟨by simpa using h6, .inr hv⟩ h5
  refine .inl ⟨hp.inputs, fun x hx => ?_, ?_, by omega⟩
  ·rcases List.mem_append.1 hx with hx | hx
   ·exact hp.named x hx
   ·cases List.mem_singleton.1 hx
    exact ⟨hv, e, e1, e2, by omega, e4⟩
  ·simp only [List.length_append, List.length_cons, List.length_nil]
   omega
theorem take_facts : ∀ l : List Tk, (takeL l).2.length ≤ l.length ∧ (l ≠ [] → (takeL l).2.length < l.length) ∧ (∀ x ∈ (takeL l).1, x ∈ l) ∧ ∀ x ∈ (takeL l).2, x ∈ l
 | [] => ⟨Nat.le_refl _, fun h => absurd rfl h, fun x h => h, fun x h => h⟩
 | t :: r => by
  obtain ⟨h1, -, h3, h4⟩ := take_facts r
  rw [takeL]
  by_cases hk : t.kind = 4
  ·rw [if_pos hk]
   exact ⟨by simp, fun _ => by simp, fun x h => (by cases h), fun x h => List.mem_cons_of_mem _ h⟩
  ·rw [if_neg hk]
   refine ⟨by simp; omega, fun _ => by simp; omega, fun x h => ?_, fun x h => List.mem_cons_of_mem _ (h4 x h)⟩
   rcases List.mem_cons.1 h with e | e
   ·rw [e]; exact List.mem_cons_self
   ·exact List.mem_cons_of_mem _ (h3 x e)
theorem parse_right {V : Voc} (h0 : V.name [] = false) : ∀ (f : Nat) (l : List Tk) (p p' : PrgP) (n : Nat), parseK V f l p n = some p' → (∀ x ∈ l, RightT x) → PreR V p n ∨ RightP V p → RightP V p'
 | 0, l, p, p', n, h, _, _ => by cases h
 | f + 1, [], p, p', n, h, _, hp => by
  rw [parseK] at h
  by_cases ho : overP p = true
  ·rw [if_pos ho] at h
   cases h
   rcases hp with hp | hp
   ·rw [over_named h0 hp.named] at ho; cases ho
   ·exact hp
  ·rw [if_neg ho] at h; cases h
 | f + 1, u :: q, p, p', n, h, hr, hp => by
  obtain ⟨-, -, h3, h4⟩ := take_facts (u :: q)
  rw [parseK] at h
  cases htk : takeL (u :: q) with
  | mk a r =>
   rw [htk] at h h3 h4
   cases a with
   | nil => exact parse_right h0 f r p p' n h (fun x hx => hr x (h4 x hx)) hp
   | cons t l =>
    dsimp only at h
    cases hi : intoQ V p n (overP p) t l with
    | none => rw [hi] at h; cases h
    | some p2 =>
     rw [hi] at h
     dsimp only [Option.bind] at h
     rcases hp with hp | hp
     ·exact parse_right h0 f r p2 p' (n + 1) h (fun x hx => hr x (h4 x hx)) (into_right h0 hi hp (fun x hx => hr x (h3 x (List.mem_cons_of_mem _ hx))))
     ·obtain ⟨a, l2, e, -⟩ := hp.lines
      have ho : overP p = true := by
       obtain ⟨i, ls⟩ := p
       dsimp only at e
       rw [e]
       exact over_out _ _ _
      rw [ho] at hi
      unfold intoQ at hi
      split at hi
      ·cases hi
      ·split at hi
       ·cases hi
       ·rw [if_pos (.inl rfl)] at hi; cases hi
end Go.Proofs.YtokghjnkfabgiaaGreatDoor

namespace Go.Proofs.YtokghjnkfabgiaaGreatDoor
open Go.Lib

structure PrgT where
 inputs : List InpP
 lines : List (Str × Ex)
 out : Ex
def PrgT.post (T : PrgT) : PrgP := ⟨T.inputs, T.lines.map (fun x => ⟨x.1, x.2.post⟩) ++ [⟨[], T.out.post⟩]⟩
def ExR (V : Voc) (most : Nat) (e : Ex) : Prop := e.fine V (fun n => in64B n = true) ∧ e.len ≤ most ∧ e.nest ≤ 32
structure FineT (V : Voc) (T : PrgT) : Prop where
 inputs : ∀ x ∈ T.inputs, InpR V x
 lines : ∀ x ∈ T.lines, V.name x.1 = true ∧ ExR V 254 x.2
 out : ExR V 255 T.out
 le : T.inputs.length + T.lines.length + 1 ≤ 64
theorem lines_tree {V : Voc} : ∀ a : List LinP, (∀ x ∈ a, V.name x.name = true ∧ ItmR V 254 x.items) → ∃ b : List (Str × Ex), a = b.map (fun x => (⟨x.1, x.2.post⟩ : LinP)) ∧ ∀ x ∈ b, V.name x.1 = true ∧ ExR V 254 x.2
 | [], _ => ⟨[], rfl, fun x h => (by cases h)⟩
 | x :: a, h => by
  obtain ⟨b, h1, h2⟩ := lines_tree a fun y hy => h y (List.mem_cons_of_mem _ hy)
  obtain ⟨hv, e, he, hf⟩ := h x List.mem_cons_self
  refine ⟨(x.name, e) :: b, ?_, fun y hy => ?_⟩
  ·obtain ⟨n, l⟩ := x
   dsimp only at he
   rw [h1, he]; rfl
  ·rcases List.mem_cons.1 hy with hy | hy
   ·rw [hy]; exact ⟨hv, hf⟩
   ·exact h2 y hy
theorem right_tree {V : Voc} {p : PrgP} (h : RightP V p) : ∃ T : PrgT, p = T.post ∧ FineT V T := by
 obtain ⟨i, ls⟩ := p
 obtain ⟨hi, ⟨a, l, hl, ha, e, he, hf⟩, hle⟩ := h
 dsimp only at hl hle hi
 subst hl
 obtain ⟨b, h1, h2⟩ := lines_tree a ha
 refine ⟨⟨i, b, e⟩, ?_, ⟨hi, h2, hf, ?_⟩⟩
 ·show (⟨i, a ++ [⟨[], l⟩]⟩ : PrgP) = ⟨i, b.map _ ++ [⟨[], e.post⟩]⟩
  rw [h1, he]
 ·have := congrArg List.length h1
  simp at this hle
  dsimp only
  omega
def sideT (d : SidP) : Tk := if d.name = [] then numT d.n else nameT d.name
def toksI : List InpP → List Tk → List Tk
 | [], q => q
 | x :: r, q => nameT kwIn :: ((nameT x.name :: x.sides.map sideT) ++ lineT :: toksI r q)
def toksL (L : Spl) : List (Str × Ex) → List Tk → List Tk
 | [], q => q
 | x :: r, q => nameT x.1 :: ((signT 58 :: L.etok x.2) ++ lineT :: toksL L r q)
def PrgT.toks (L : Spl) (T : PrgT) : List Tk := toksI T.inputs (toksL L T.lines (nameT kwOut :: (L.etok T.out ++ lineT :: [])))
theorem take_line : ∀ (l q : List Tk), (∀ x ∈ l, x.kind ≠ 4) → takeL (l ++ lineT :: q) = (l, q)
 | [], q, _ => rfl
 | t :: l, q, h => by
  show takeL (t :: (l ++ lineT :: q)) = _
  rw [takeL, if_neg (h t List.mem_cons_self), take_line l q fun x hx => h x (List.mem_cons_of_mem _ hx)]
variable {L : Spl}
theorem numT_kind (n : Int) : (numT n).kind ≠ 4 := show (2 : Int) ≠ 4 by decide
theorem nameT_kind (s : Str) : (nameT s).kind ≠ 4 := show (1 : Int) ≠ 4 by decide
theorem signT_kind (b : UInt8) : (signT b).kind ≠ 4 := show (3 : Int) ≠ 4 by decide
theorem vtok_kind {i : Itm} : ∀ t ∈ L.vtok i, t.kind ≠ 4 := by
 intro t ht
 unfold Spl.vtok at ht
 have hk : ∀ s, (L.tok s).kind ≠ 4 := fun s => (kind_verb (L := L) (s := s)).2
 split at ht
 ·cases List.mem_singleton.1 ht; exact hk _
 ·split at ht
  ·cases List.mem_singleton.1 ht; exact hk _
  ·rcases List.mem_cons.1 ht with h | h
   ·rw [h]; exact hk _
   ·cases List.mem_singleton.1 h; exact signT_kind _
theorem etok_kind : ∀ (e : Ex), ∀ t ∈ L.etok e, t.kind ≠ 4
 | .num l, t, ht => by
  obtain ⟨n, -, rfl⟩ := List.mem_map.1 ht
  exact numT_kind n
 | .nam s, t, ht => by cases List.mem_singleton.1 ht; exact nameT_kind s
 | .mon i e, t, ht => by
  rcases List.mem_append.1 ht with h | h
  ·exact vtok_kind t h
  ·exact etok_kind e t h
 | .dy i a b, t, ht => by
  rcases List.mem_append.1 ht with h | h
  ·split at h
   ·exact etok_kind a t h
   ·rcases List.mem_cons.1 h with h | h
    ·rw [h]; decide
    ·rcases List.mem_append.1 h with h | h
     ·exact etok_kind a t h
     ·cases List.mem_singleton.1 h; decide
  ·rcases List.mem_append.1 h with h | h
   ·exact vtok_kind t h
   ·exact etok_kind b t h
theorem side_kind (d : SidP) : (sideT d).kind ≠ 4 := by unfold sideT; split; exact numT_kind _; exact nameT_kind _
theorem parse_step {V : Voc} {f n : Nat} {p : PrgP} {t : Tk} {l q : List Tk} (h : ∀ x ∈ t :: l, x.kind ≠ 4) : parseK V (f + 1) (t :: (l ++ lineT :: q)) p n = (intoQ V p n (overP p) t l).bind fun p' => parseK V f q p' (n + 1) := by
 rw [parseK, show t :: (l ++ lineT :: q) = (t :: l) ++ lineT :: q from rfl, take_line _ q h]
theorem sides_read {V : Voc} : ∀ (d acc : List SidP), (∀ x ∈ d, SideR V x) → acc.length + d.length ≤ 4 → sidesP V (d.map sideT) acc = some (acc ++ d)
 | [], acc, _, _ => by simp [sidesP]
 | x :: d, acc, h, hl => by
  have hx := h x List.mem_cons_self
  simp only [List.length_cons] at hl
  have h1 : ¬ ((sideT x).kind ≠ 2 ∧ ((sideT x).kind ≠ 1 ∨ V.name (sideT x).word = false)) ∧ (⟨(sideT x).word, (sideT x).n⟩ : SidP) = x := by
   obtain ⟨w, n⟩ := x
   unfold sideT
   by_cases hw : w = []
   ·subst hw
    rw [if_pos rfl]
    exact ⟨fun ⟨h, _⟩ => h rfl, rfl⟩
   ·rw [if_neg hw]
    rcases hx with ⟨e, _⟩ | ⟨hv, hn⟩
    ·exact absurd e hw
    ·dsimp only at hv hn
     subst hn
     refine ⟨fun ⟨_, h⟩ => ?_, rfl⟩
     rcases h with h | h
     ·exact h rfl
     ·rw [show (nameT w).word = w from rfl, hv] at h; cases h
  show sidesP V (sideT x :: d.map sideT) acc = _
  rw [sidesP, if_neg h1.1, if_neg (by omega), h1.2, sides_read d _ (fun y hy => h y (List.mem_cons_of_mem _ hy)) (by simp; omega)]
  simp
structure Kw (V : Voc) : Prop where
 none : V.name [] = false
 kin : V.name kwIn = false
 kout : V.name kwOut = false
theorem isWord_name (s w : Str) : isWord (nameT s) w = decide (s = w) := rfl
theorem parse_inputs {V : Voc} : ∀ (is acc : List InpP) (f n : Nat) (q : List Tk), (∀ x ∈ is, InpR V x) → n + is.length ≤ 63 → parseK V (is.length + f) (toksI is q) ⟨acc, []⟩ n = parseK V f q ⟨acc ++ is, []⟩ (n + is.length)
 | [], acc, f, n, q, _, _ => by simp [toksI]
 | x :: is, acc, f, n, q, h, hn => by
  obtain ⟨hv, hl, hs⟩ := h x List.mem_cons_self
  simp only [List.length_cons] at hn ⊢
  have hk : ∀ y ∈ nameT kwIn :: (nameT x.name :: x.sides.map sideT), y.kind ≠ 4 := by
   intro y hy
   rcases List.mem_cons.1 hy with e | e
   ·rw [e]; decide
   ·rcases List.mem_cons.1 e with e | e
    ·rw [e]; exact nameT_kind _
    ·obtain ⟨d, -, rfl⟩ := List.mem_map.1 e
     exact side_kind d
  have hi : intoQ V ⟨acc, []⟩ n (overP ⟨acc, []⟩) (nameT kwIn) (nameT x.name :: x.sides.map sideT) = some ⟨acc ++ [x], []⟩ := by
   unfold intoQ
   rw [if_neg (by omega), if_neg (by simp; omega), if_neg, if_pos (show isWord (nameT kwIn) kwIn = true by decide), inputP, if_neg, sides_read x.sides [] hs (by simpa using hl)]
   ·rfl
   ·rintro (h | h)
    ·exact h rfl
    ·rw [show (nameT x.name).word = x.name from rfl, hv] at h; cases h
   ·rintro (h | h)
    ·cases h
    ·exact h.2 rfl
  rw [toksI, show is.length + 1 + f = (is.length + f) + 1 by omega, parse_step hk, hi]
  show parseK V (is.length + f) (toksI is q) ⟨acc ++ [x], []⟩ (n + 1) = _
  rw [parse_inputs is _ f (n + 1) q (fun y hy => h y (List.mem_cons_of_mem _ hy)) (by omega)]
  congr 1
  ·simp
  ·omega
def linOf (x : Str × Ex) : LinP := ⟨x.1, x.2.post⟩
theorem lines_over {V : Voc} (K : Kw V) (i : List InpP) (acc : List (Str × Ex)) (h : ∀ x ∈ acc, V.name x.1 = true ∧ ExR V 254 x.2) : overP ⟨i, acc.map linOf⟩ = false := by
 refine over_named K.none fun y hy => ?_
 obtain ⟨x, hx, rfl⟩ := List.mem_map.1 hy
 exact ⟨(h x hx).1, x.2, rfl, (h x hx).2⟩
theorem parse_lines (K : Kw L.V) : ∀ (ls acc : List (Str × Ex)) (i : List InpP) (f n : Nat) (q : List Tk), (∀ x ∈ ls, L.V.name x.1 = true ∧ ExR L.V 254 x.2) → (∀ x ∈ acc, L.V.name x.1 = true ∧ ExR L.V 254 x.2) → n + ls.length ≤ 63 →
  parseK L.V (ls.length + f) (toksL L ls q) ⟨i, acc.map linOf⟩ n = parseK L.V f q ⟨i, (acc ++ ls).map linOf⟩ (n + ls.length)
 | [], acc, i, f, n, q, _, _, _ => by simp [toksL]
 | x :: ls, acc, i, f, n, q, h, ha, hn => by
  obtain ⟨hv, he, hl, hne⟩ := h x List.mem_cons_self
  simp only [List.length_cons] at hn ⊢
  have hk : ∀ y ∈ nameT x.1 :: (signT 58 :: L.etok x.2), y.kind ≠ 4 := by
   intro y hy
   rcases List.mem_cons.1 hy with e | e
   ·rw [e]; exact nameT_kind _
   ·rcases List.mem_cons.1 e with e | e
    ·rw [e]; decide
    ·exact etok_kind _ y e
  have h1 : isWord (nameT x.1) kwIn = false := by
   rw [isWord_name, decide_eq_false_iff_not]
   intro e; rw [e, K.kin] at hv; cases hv
  have h2 : isWord (nameT x.1) kwOut = false := by
   rw [isWord_name, decide_eq_false_iff_not]
   intro e; rw [e, K.kout] at hv; cases hv
  have hi : intoQ L.V ⟨i, acc.map linOf⟩ n (overP ⟨i, acc.map linOf⟩) (nameT x.1) (signT 58 :: L.etok x.2) = some ⟨i, (acc ++ [x]).map linOf⟩ := by
   unfold intoQ
   rw [lines_over K i acc ha, if_neg (by omega), if_neg (by rw [List.length_cons, etok_len]; omega), h1, h2, if_neg (by simp), if_neg (by simp), if_neg, if_neg (by simp), if_neg (show ¬ (isSign (headT (signT 58 :: L.etok x.2)) 58 = false) from (show ¬ (isSign (signT 58) 58 = false) by decide))]
   ·show (exprP L.V (L.etok x.2)).map _ = _
    rw [expr_read he hne]
    simp [linOf, nameT]
   ·rintro ⟨_, h⟩
    rcases h with h | h
    ·exact h rfl
    ·rw [show (nameT x.1).word = x.1 from rfl, hv] at h; cases h
  rw [toksL, show ls.length + 1 + f = (ls.length + f) + 1 by omega, parse_step hk, hi]
  show parseK L.V (ls.length + f) (toksL L ls q) ⟨i, (acc ++ [x]).map linOf⟩ (n + 1) = _
  rw [parse_lines K ls _ i f (n + 1) q (fun y hy => h y (List.mem_cons_of_mem _ hy)) (fun y hy => ?_) (by omega)]
  ·congr 1
   ·simp
   ·omega
  ·rcases List.mem_append.1 hy with e | e
   ·exact ha y e
   ·cases List.mem_singleton.1 e; exact h x List.mem_cons_self
theorem toksI_len : ∀ (is : List InpP) (q : List Tk), is.length + q.length ≤ (toksI is q).length
 | [], q => by simp [toksI]
 | x :: is, q => by have := toksI_len is q; simp [toksI]; omega
theorem toksL_len : ∀ (ls : List (Str × Ex)) (q : List Tk), ls.length + q.length ≤ (toksL L ls q).length
 | [], q => by simp [toksL]
 | x :: ls, q => by have := toksL_len ls q; simp [toksL]; omega
end Go.Proofs.YtokghjnkfabgiaaGreatDoor

namespace Go.Proofs.YtokghjnkfabgiaaGreatDoor
open Go.Lib

def showSides (V : Voc) : List SidP → Str → Option Str
 | [], s => some s
 | d :: r, s => if d.name = [] then showSides V r (s ++ 32 :: numStr d.n) else if d.n = 0 ∧ V.name d.name = true then showSides V r (s ++ 32 :: d.name) else none
def showIns (V : Voc) : List InpP → Str → Option Str
 | [], s => some s
 | x :: r, s => if V.name x.name = false ∨ 4 < x.sides.length then none else (showSides V x.sides x.name).bind fun t => showIns V r (s ++ (kwIn ++ 32 :: t ++ [10]))
def showLines (L : Spl) : List LinP → Str → Option Str
 | [], s => some s
 | x :: r, s => (showX L x.items (if r = [] then 255 else 254)).bind fun t =>
  if (r = [] ∧ x.name ≠ []) ∨ (r ≠ [] ∧ (x.name = [] ∨ L.V.name x.name = false)) then none else showLines L r (s ++ ((if r = [] then kwOut ++ [32] else x.name ++ [58, 32]) ++ t ++ [10]))
def showProg (L : Spl) (p : PrgP) : Option Str :=
 if p.lines = [] ∨ 64 < p.inputs.length ∨ 64 - p.inputs.length < p.lines.length then none else (showIns L.V p.inputs []).bind (showLines L p.lines)
def sidesX : List SidP → Str → Str
 | [], s => s
 | d :: r, s => 32 :: (spellT (sideT d) ++ sidesX r s)
def insX : List InpP → Str → Str
 | [], s => s
 | x :: r, s => kwIn ++ (32 :: (x.name ++ sidesX x.sides (10 :: insX r s)))
def linesX (L : Spl) : List (Str × Ex) → Str → Str
 | [], s => s
 | x :: r, s => x.1 ++ (58 :: 32 :: (textE L x.2 ++ (10 :: linesX L r s)))
def PrgT.text (L : Spl) (T : PrgT) : Str := insX T.inputs (linesX L T.lines (kwOut ++ (32 :: (textE L T.out ++ [10]))))
variable {L : Spl}
theorem spell_side {d : SidP} : spellT (sideT d) = if d.name = [] then numStr d.n else d.name := by
 unfold sideT
 split <;> rfl
theorem show_sides {V : Voc} : ∀ (l : List SidP) (s : Str), (∀ d ∈ l, SideR V d) → showSides V l s = some (s ++ sidesX l [])
 | [], s, _ => by simp [showSides, sidesX]
 | d :: l, s, h => by
  have ih := fun s => show_sides l s fun x hx => h x (List.mem_cons_of_mem _ hx)
  rw [showSides, sidesX, spell_side]
  by_cases hd : d.name = []
  ·rw [if_pos hd, if_pos hd, ih]; simp
  ·rw [if_neg hd, if_neg hd, if_pos, ih]
   ·simp
   ·rcases h d List.mem_cons_self with ⟨e, _⟩ | ⟨hv, hn⟩
    ·exact absurd e hd
    ·exact ⟨hn, hv⟩
theorem sidesX_app : ∀ (l : List SidP) (s t : Str), sidesX l s ++ t = sidesX l (s ++ t)
 | [], s, t => rfl
 | d :: l, s, t => by simp [sidesX, sidesX_app l s t]
theorem insX_app : ∀ (l : List InpP) (s t : Str), insX l s ++ t = insX l (s ++ t)
 | [], s, t => rfl
 | d :: l, s, t => by simp [insX, sidesX_app, insX_app l s t]
theorem show_ins {V : Voc} : ∀ (l : List InpP) (s : Str), (∀ x ∈ l, InpR V x) → showIns V l s = some (s ++ insX l [])
 | [], s, _ => by simp [showIns, insX]
 | x :: l, s, h => by
  obtain ⟨hv, hl, hs⟩ := h x List.mem_cons_self
  rw [showIns, if_neg, show_sides x.sides x.name hs]
  ·show showIns V l _ = _
   rw [show_ins l _ fun y hy => h y (List.mem_cons_of_mem _ hy), insX]
   simp [sidesX_app]
  ·rintro (e | e)
   ·rw [hv] at e; cases e
   ·omega
theorem show_lines (K : Kw L.V) {o : Ex} (ho : ExR L.V 255 o) : ∀ (l : List (Str × Ex)) (s : Str), (∀ x ∈ l, L.V.name x.1 = true ∧ ExR L.V 254 x.2) →
  showLines L (l.map linOf ++ [⟨[], o.post⟩]) s = some (s ++ linesX L l (kwOut ++ (32 :: (textE L o ++ [10]))))
 | [], s, _ => by
  obtain ⟨he, hl, hn⟩ := ho
  show showLines L [⟨[], o.post⟩] s = _
  rw [showLines, if_pos rfl, show_tree he (by omega) hl hn]
  rw [Option.bind_some, if_neg, showLines, linesX]
  ·simp
  ·rintro (⟨_, h⟩ | ⟨h, _⟩) <;> exact h rfl
 | x :: l, s, h => by
  obtain ⟨hv, he, hl, hn⟩ := h x List.mem_cons_self
  have hne : l.map linOf ++ [(⟨[], o.post⟩ : LinP)] ≠ [] := by simp
  have hnm : x.1 ≠ [] := fun e => by rw [e, K.none] at hv; cases hv
  show showLines L (linOf x :: (l.map linOf ++ [⟨[], o.post⟩])) s = _
  rw [showLines, if_neg hne, show (linOf x).items = x.2.post from rfl, show_tree he (by omega) hl hn]
  rw [Option.bind_some, if_neg, if_neg hne, show_lines K ho l _ fun y hy => h y (List.mem_cons_of_mem _ hy), linesX]
  ·simp [linOf]
  ·rintro (⟨h, _⟩ | ⟨_, h | h⟩)
   ·exact hne h
   ·exact hnm h
   ·rw [show (linOf x).name = x.1 from rfl, hv] at h; cases h
theorem show_prog (K : Kw L.V) {T : PrgT} (h : FineT L.V T) : showProg L T.post = some (T.text L) := by
 have hle := h.le
 unfold showProg
 rw [if_neg, show T.post.inputs = T.inputs from rfl, show_ins T.inputs [] h.inputs]
 ·show showLines L T.post.lines _ = _
  rw [show T.post.lines = T.lines.map linOf ++ [⟨[], T.out.post⟩] from rfl, show_lines K h.out T.lines _ h.lines]
  unfold PrgT.text
  rw [List.nil_append, insX_app, List.nil_append]
 ·rintro (e | e | e)
  ·simp [PrgT.post] at e
  ·rw [show T.post.inputs = T.inputs from rfl] at e; omega
  ·simp [PrgT.post] at e; omega
theorem right_kwIn : RightT (nameT kwIn) := .inl ⟨rfl, rfl, 105, [110], rfl, by decide, by decide, by decide⟩
theorem right_kwOut : RightT (nameT kwOut) := .inl ⟨rfl, rfl, 111, [117, 116], rfl, by decide, by decide, by decide⟩
theorem right_line : RightT lineT := .inr (.inr (.inr rfl))
theorem laid_line {s : Str} {q : List Tk} (h : Laid s q) : Laid (10 :: s) (lineT :: q) :=
 Laid.tok (t := lineT) right_line (fun b _ => ⟨fun e => absurd e (by decide), fun e => absurd e (by decide), fun e => e.elim (fun e => absurd e (by decide)) (fun e => absurd e (by decide))⟩) h
theorem right_side (R : SplR L) {d : SidP} (h : SideR L.V d) : RightT (sideT d) := by
 unfold sideT
 rcases h with ⟨e, hi⟩ | ⟨hv, hn⟩
 ·rw [if_pos e]; exact right_num hi
 ·by_cases e : d.name = []
  ·rw [if_pos e, hn]; exact right_num (by decide)
  ·rw [if_neg e]; exact R.name _ hv
theorem soft_sides {l : List SidP} {s : Str} (h : Soft s) : Soft (sidesX l s) := by
 cases l with
 | nil => exact h
 | cons d l => exact soft_blank _
theorem laid_sides (R : SplR L) : ∀ (l : List SidP) (s : Str) (q : List Tk), (∀ d ∈ l, SideR L.V d) → Soft s → Laid s q → Laid (sidesX l s) (l.map sideT ++ q)
 | [], s, q, _, _, h => h
 | d :: l, s, q, hd, hs, h => .blank (.tok (right_side R (hd d List.mem_cons_self)) (soft_stop (soft_sides hs)) (laid_sides R l s q (fun x hx => hd x (List.mem_cons_of_mem _ hx)) hs h))
theorem laid_ins (R : SplR L) : ∀ (l : List InpP) (s : Str) (q : List Tk), (∀ x ∈ l, InpR L.V x) → Laid s q → Laid (insX l s) (toksI l q)
 | [], s, q, _, h => h
 | x :: l, s, q, hx, h => by
  obtain ⟨hv, hl, hs⟩ := hx x List.mem_cons_self
  have h1 := laid_line (laid_ins R l s q (fun y hy => hx y (List.mem_cons_of_mem _ hy)) h)
  have h2 := laid_sides R x.sides _ _ hs (soft_line _) h1
  have h3 := Laid.tok (R.name _ hv) (soft_stop (soft_sides (l := x.sides) (soft_line _))) h2
  exact Laid.tok right_kwIn (stop_blank _ _) (.blank h3)
theorem right_colon : RightT (signT 58) := .inr (.inr (.inl ⟨rfl, rfl, .inl ⟨58, rfl, by decide⟩⟩))
theorem soft_colon (s : Str) : Soft (58 :: s) := fun b h => by cases h; decide
theorem laid_lines (R : SplR L) : ∀ (l : List (Str × Ex)) (s : Str) (q : List Tk), (∀ x ∈ l, L.V.name x.1 = true ∧ ExR L.V 254 x.2) → Laid s q → Laid (linesX L l s) (toksL L l q)
 | [], s, q, _, h => h
 | x :: l, s, q, hx, h => by
  obtain ⟨hv, he, -, -⟩ := hx x List.mem_cons_self
  have h1 := laid_line (laid_lines R l s q (fun y hy => hx y (List.mem_cons_of_mem _ hy)) h)
  have h2 := laid_ex R x.2 _ _ he (soft_line _) h1
  have h3 := Laid.tok right_colon (stop_blank _ _) (.blank h2)
  exact Laid.tok (R.name _ hv) (soft_stop (soft_colon _)) h3
end Go.Proofs.YtokghjnkfabgiaaGreatDoor

namespace Go.Proofs.YtokghjnkfabgiaaGreatDoor
open Go.Lib

def verbsW : List (Str × Int × Int) :=
 [([43], 1, 1), ([45], 2, 2), ([42], 3, 3), ([37], 4, 4), ([124], 5, 5), ([109, 105, 110], 6, 6), ([109, 97, 120], 7, 7),
  ([61], 8, 0), ([126], 9, 16), ([60], 10, 0), ([60, 61], 11, 0), ([62, 61], 12, 0), ([62], 13, 0), ([97, 110, 100], 14, 0), ([111, 114], 15, 0), ([112, 111, 119], 17, 0),
  ([114, 104, 111], 37, 0), ([116, 97, 107, 101], 38, 0), ([100, 114, 111, 112], 39, 0), ([99, 97, 116], 40, 0),
  ([105, 111, 116, 97], 0, 32), ([115, 104, 97, 112, 101], 0, 33), ([114, 97, 118, 101, 108], 0, 34), ([114, 101, 118], 0, 35), ([116, 117, 114, 110], 0, 36)]
def findW (s : Str) : Option (Str × Int × Int) := verbsW.find? fun x => decide (x.1 = s)
def twoW (s : Str) : Int := match findW s with | some x => x.2.1 | none => 0
def oneW (s : Str) : Int := match findW s with | some x => x.2.2 | none => 0
def verbW (s : Str) : Bool := oneW s != 0 || twoW s != 0
def lexName (s : Str) : Bool := match lexP s with
 | some [p] => p.1.kind == 1 && decide (p.1.word = s)
 | _ => false
def nameW (s : Str) : Bool := !(verbW s || decide (s = kwIn) || decide (s = kwOut)) && lexName s
def VV : Voc := ⟨twoW, oneW, nameW⟩
def wtwoW (n : Int) : Str := if n = 0 then [] else match verbsW.find? (fun x => decide (x.2.1 = n)) with | some x => x.1 | none => []
def woneW (n : Int) : Str := if n = 0 then [] else match verbsW.find? (fun x => decide (x.2.2 = n)) with | some x => x.1 | none => []
def kindW (s : Str) : Int := match s with | b :: _ => if isLetter b = true then 1 else 3 | [] => 3
theorem find_mem {s : Str} {x : Str × Int × Int} (h : findW s = some x) : x ∈ verbsW ∧ x.1 = s := ⟨List.mem_of_find?_eq_some h, by simpa using List.find?_some h⟩
theorem verbs_all : ∀ x ∈ verbsW, (x.2.1 ≠ 0 → twoW (wtwoW x.2.1) = x.2.1) ∧ (x.2.2 ≠ 0 → oneW (woneW x.2.2) = x.2.2) := by decide
theorem verb_mem {s : Str} (h : verbW s = true) : ∃ x ∈ verbsW, x.1 = s := by
 unfold verbW oneW twoW at h
 cases hf : findW s with
 | none => rw [hf] at h; cases h
 | some x => exact ⟨x, find_mem hf⟩
theorem verbs_right : ∀ x ∈ verbsW, (kindW x.1 = 1 ∧ (∃ b q, x.1 = b :: q ∧ isLetter b = true ∧ (∀ c ∈ x.1, isNameB c = true) ∧ x.1.length ≤ 16)) ∨ (kindW x.1 = 3 ∧ ((∃ b, x.1 = [b] ∧ isSignB b = true) ∨ x.1 = [60, 61] ∨ x.1 = [62, 61])) := by
 have : ∀ x ∈ verbsW, (kindW x.1 = 1 ∧ (isLetter (x.1.headD 0) = true ∧ (∀ c ∈ x.1, isNameB c = true) ∧ x.1.length ≤ 16) ∧ x.1 ≠ []) ∨ (kindW x.1 = 3 ∧ ((x.1 = [x.1.headD 0] ∧ isSignB (x.1.headD 0) = true) ∨ x.1 = [60, 61] ∨ x.1 = [62, 61])) := by decide
 intro x hx
 rcases this x hx with ⟨h1, ⟨h2, h3, h4⟩, h5⟩ | ⟨h1, h2⟩
 ·refine .inl ⟨h1, ?_⟩
  cases hw : x.1 with
  | nil => exact absurd hw h5
  | cons b q =>
   rw [hw] at h2 h3 h4
   exact ⟨b, q, rfl, h2, h3, h4⟩
 ·refine .inr ⟨h1, ?_⟩
  rcases h2 with ⟨h, h'⟩ | h
  ·exact .inl ⟨_, h, h'⟩
  ·exact .inr h
def LL : Spl where
 V := VV
 wtwo := wtwoW
 wone := woneW
 kind := kindW
 kinds := fun s => by unfold kindW; split <;> (try split) <;> simp
 two := fun s h => by
  show twoW (wtwoW (twoW s)) = twoW s
  have h' : twoW s ≠ 0 := h
  unfold twoW at h'
  cases hf : findW s with
  | none => rw [hf] at h'; exact absurd rfl h'
  | some x =>
   have e : twoW s = x.2.1 := by unfold twoW; rw [hf]
   rw [hf] at h'
   rw [e]
   exact (verbs_all x (find_mem hf).1).1 h'
 one := fun s h => by
  show oneW (woneW (oneW s)) = oneW s
  have h' : oneW s ≠ 0 := h
  unfold oneW at h'
  cases hf : findW s with
  | none => rw [hf] at h'; exact absurd rfl h'
  | some x =>
   have e : oneW s = x.2.2 := by unfold oneW; rw [hf]
   rw [hf] at h'
   rw [e]
   exact (verbs_all x (find_mem hf).1).2 h'
 verb47 := by decide
 verb92 := by decide
 verb46 := by decide
 verb40 := by decide
 verb41 := by decide
 nverb := fun s h => by
  have h : nameW s = true := h
  show verbW s = false
  unfold nameW at h
  cases hv : verbW s with
  | false => rfl
  | true => rw [hv] at h; cases h
 two0 := by decide
 one0 := by decide
theorem KK : Kw LL.V := ⟨by decide, by decide, by decide⟩
theorem RR : SplR LL where
 verb := fun s h => by
  obtain ⟨x, hx, rfl⟩ := verb_mem h
  rcases verbs_right x hx with ⟨h1, h2⟩ | ⟨h1, h2⟩
  ·exact .inl ⟨h1, rfl, h2⟩
  ·exact .inr (.inr (.inl ⟨h1, rfl, h2⟩))
 name := fun s h => by
  have h : nameW s = true := h
  unfold nameW at h
  simp only [Bool.and_eq_true] at h
  have h2 := h.2
  unfold lexName at h2
  split at h2
  ·rename_i p hp
   simp only [Bool.and_eq_true, beq_iff_eq, decide_eq_true_eq] at h2
   unfold lexP at hp
   split at hp
   ·cases hp
   ·have hr := lex_right _ _ _ _ hp p List.mem_cons_self
    obtain ⟨⟨k, w, n⟩, a⟩ := p
    dsimp only at h2 hr
    obtain ⟨rfl, rfl⟩ := h2
    rcases hr with hr | ⟨e, _⟩ | ⟨e, _⟩ | e
    ·obtain ⟨-, hn, hw⟩ := hr
     dsimp only at hn
     subst hn
     exact .inl ⟨rfl, rfl, hw⟩
    ·exact absurd (show (1 : Int) = 2 from e) (by decide)
    ·exact absurd (show (1 : Int) = 3 from e) (by decide)
    ·exact absurd (congrArg Tk.kind e) (show ¬ (1 : Int) = 4 by decide)
  ·cases h2
end Go.Proofs.YtokghjnkfabgiaaGreatDoor

namespace Go.Proofs.YtokghjnkfabgiaaGreatDoor
open Go.Lib

def PrgT.toks2 (L : Spl) (T : PrgT) : List Tk := toksI T.inputs (toksL L T.lines (nameT kwOut :: L.etok T.out))
def PrgT.text2 (L : Spl) (T : PrgT) : Str := insX T.inputs (linesX L T.lines (kwOut ++ (32 :: textE L T.out)))
theorem take_all : ∀ (l : List Tk), (∀ x ∈ l, x.kind ≠ 4) → takeL l = (l, [])
 | [], _ => rfl
 | t :: l, h => by rw [takeL, if_neg (h t List.mem_cons_self), take_all l fun x hx => h x (List.mem_cons_of_mem _ hx)]
variable {L : Spl}
theorem parse_last {V : Voc} {f n : Nat} {p : PrgP} {t : Tk} {l : List Tk} (h : ∀ x ∈ t :: l, x.kind ≠ 4) : parseK V (f + 1) (t :: l) p n = (intoQ V p n (overP p) t l).bind fun p' => parseK V f [] p' (n + 1) := by
 rw [parseK, take_all _ h]
theorem parse_read2 (K : Kw L.V) {T : PrgT} (h : FineT L.V T) : parseP L.V (T.toks2 L) = some T.post := by
 have hle := h.le
 obtain ⟨he, hl, hne⟩ := h.out
 unfold parseP PrgT.toks2
 generalize hq : nameT kwOut :: L.etok T.out = q
 have h1 := toksI_len T.inputs (toksL L T.lines q)
 have h2 := toksL_len (L := L) T.lines q
 have h3 : 1 ≤ q.length := by rw [← hq]; simp
 obtain ⟨k, hk⟩ : ∃ k, (toksI T.inputs (toksL L T.lines q)).length + 1 = T.inputs.length + (T.lines.length + (k + 1 + 1)) := ⟨(toksI T.inputs (toksL L T.lines q)).length + 1 - T.inputs.length - T.lines.length - 2, by omega⟩
 rw [hk, parse_inputs T.inputs [] _ 0 _ h.inputs (by omega)]
 have := parse_lines K T.lines [] ([] ++ T.inputs) (k + 1 + 1) (0 + T.inputs.length) q h.lines (fun x hx => (by cases hx)) (by omega)
 rw [show (⟨[] ++ T.inputs, []⟩ : PrgP) = ⟨[] ++ T.inputs, ([] : List (Str × Ex)).map linOf⟩ from rfl, this, ← hq, parse_last]
 ·unfold intoQ
  rw [List.nil_append, List.nil_append, lines_over K _ T.lines h.lines, if_neg (by omega), if_neg (by rw [etok_len]; omega), if_neg, if_neg, if_neg, if_pos (show isWord (nameT kwOut) kwOut = true by decide), expr_read he hne]
  ·show parseK L.V (k + 1) [] ⟨T.inputs, T.lines.map linOf ++ [⟨[], T.out.post⟩]⟩ (0 + T.inputs.length + T.lines.length + 1) = some T.post
   rw [parseK, if_pos (over_out _ _ _)]
   rfl
  ·intro h; exact absurd h.1 (by decide)
  ·decide
  ·rintro (h | h)
   ·cases h
   ·exact absurd h.1 (by decide)
 ·intro y hy
  rcases List.mem_cons.1 hy with e | e
  ·rw [e]; decide
  ·exact etok_kind _ y e
theorem laid_prog2 (R : SplR L) {T : PrgT} (h : FineT L.V T) : Laid (T.text2 L) (T.toks2 L) := by
 obtain ⟨he, -, -⟩ := h.out
 refine laid_ins R _ _ _ h.inputs (laid_lines R _ _ _ h.lines ?_)
 have hx := laid_ex R T.out [] [] he (fun b h => (by cases h)) .nil
 rw [List.append_nil, List.append_nil] at hx
 exact Laid.tok right_kwOut (stop_blank _ _) (.blank hx)
theorem read2 (K : Kw L.V) (R : SplR L) {T : PrgT} (h : FineT L.V T) (hl : (T.text2 L).length ≤ 65536) : ∃ q, lexP (T.text2 L) = some q ∧ parseP L.V (bare q) = some T.post := by
 obtain ⟨q, h1, h2⟩ := laid_lex (laid_prog2 R h) 0
 refine ⟨q, by unfold lexP; rw [if_neg (by omega)]; exact h1, ?_⟩
 have h2' : bare q = T.toks2 L := h2
 rw [h2']
 exact parse_read2 K h
end Go.Proofs.YtokghjnkfabgiaaGreatDoor
