import Derived.Test.YtokghjnkfabgiaaGreatDoorTA5
namespace Go.Proofs.YtokghjnkfabgiaaGreatDoor
set_option maxRecDepth 100000
open Go.Lib
set_option linter.unusedVariables false
set_option linter.unusedSimpArgs false

/-! Programs: their tokens are read as they; their text. -/
structure PrgT where
  inputs : List InpP
  lines : List (Str × Ex)
  out : Ex
def PrgT.post (T : PrgT) : PrgP := ⟨T.inputs, T.lines.map (fun x => ⟨x.1, x.2.post⟩) ++ [⟨[], T.out.post⟩]⟩
def ExR (V : Voc) (most : Nat) (e : Ex) : Prop := e.fine V (fun n => in64B n = true) ∧ e.len ≤ most ∧ e.nest ≤ 32
structure FineT (V : Voc) (T : PrgT) : Prop where
  inputs : ∀ x ∈ T.inputs, InpR V x
  lines : ∀ x ∈ T.lines, V.name x.1 = true ∧ ExR V 254 x.2
  out : ExR V 255 T.out
  le : T.inputs.length + T.lines.length + 1 ≤ 64
theorem lines_tree {V : Voc} : ∀ a : List LinP, (∀ x ∈ a, V.name x.name = true ∧ ItmR V 254 x.items) → ∃ b : List (Str × Ex), a = b.map (fun x => (⟨x.1, x.2.post⟩ : LinP)) ∧ ∀ x ∈ b, V.name x.1 = true ∧ ExR V 254 x.2
  | [], _ => ⟨[], rfl, fun x h => (by cases h)⟩
  | x :: a, h => by
    obtain ⟨b, h1, h2⟩ := lines_tree a fun y hy => h y (List.mem_cons_of_mem _ hy)
    obtain ⟨hv, e, he, hf⟩ := h x List.mem_cons_self
    refine ⟨(x.name, e) :: b, ?_, fun y hy => ?_⟩
    · obtain ⟨n, l⟩ := x
      dsimp only at he
      rw [h1, he]; rfl
    · rcases List.mem_cons.1 hy with hy | hy
      · rw [hy]; exact ⟨hv, hf⟩
      · exact h2 y hy
theorem right_tree {V : Voc} {p : PrgP} (h : RightP V p) : ∃ T : PrgT, p = T.post ∧ FineT V T := by
  obtain ⟨i, ls⟩ := p
  obtain ⟨hi, ⟨a, l, hl, ha, e, he, hf⟩, hle⟩ := h
  dsimp only at hl hle hi
  subst hl
  obtain ⟨b, h1, h2⟩ := lines_tree a ha
  refine ⟨⟨i, b, e⟩, ?_, ⟨hi, h2, hf, ?_⟩⟩
  · show (⟨i, a ++ [⟨[], l⟩]⟩ : PrgP) = ⟨i, b.map _ ++ [⟨[], e.post⟩]⟩
    rw [h1, he]
  · have := congrArg List.length h1
    simp at this hle
    dsimp only
    omega
/-! tokens -/
def sideT (d : SidP) : Tk := if d.name = [] then numT d.n else nameT d.name
def toksI : List InpP → List Tk → List Tk
  | [], q => q
  | x :: r, q => nameT kwIn :: ((nameT x.name :: x.sides.map sideT) ++ lineT :: toksI r q)
def toksL (L : Spl) : List (Str × Ex) → List Tk → List Tk
  | [], q => q
  | x :: r, q => nameT x.1 :: ((signT 58 :: L.etok x.2) ++ lineT :: toksL L r q)
def PrgT.toks (L : Spl) (T : PrgT) : List Tk := toksI T.inputs (toksL L T.lines (nameT kwOut :: (L.etok T.out ++ lineT :: [])))
theorem take_line : ∀ (l q : List Tk), (∀ x ∈ l, x.kind ≠ 4) → takeL (l ++ lineT :: q) = (l, q)
  | [], q, _ => rfl
  | t :: l, q, h => by
    show takeL (t :: (l ++ lineT :: q)) = _
    rw [takeL, if_neg (h t List.mem_cons_self), take_line l q fun x hx => h x (List.mem_cons_of_mem _ hx)]
variable {L : Spl}
theorem numT_kind (n : Int) : (numT n).kind ≠ 4 := show (2 : Int) ≠ 4 by decide
theorem nameT_kind (s : Str) : (nameT s).kind ≠ 4 := show (1 : Int) ≠ 4 by decide
theorem signT_kind (b : UInt8) : (signT b).kind ≠ 4 := show (3 : Int) ≠ 4 by decide
theorem vtok_kind {i : Itm} : ∀ t ∈ L.vtok i, t.kind ≠ 4 := by
  intro t ht
  unfold Spl.vtok at ht
  have hk : ∀ s, (L.tok s).kind ≠ 4 := fun s => (kind_verb (L := L) (s := s)).2
  split at ht
  · cases List.mem_singleton.1 ht; exact hk _
  · split at ht
    · cases List.mem_singleton.1 ht; exact hk _
    · rcases List.mem_cons.1 ht with h | h
      · rw [h]; exact hk _
      · cases List.mem_singleton.1 h; exact signT_kind _
theorem etok_kind : ∀ (e : Ex), ∀ t ∈ L.etok e, t.kind ≠ 4
  | .num l, t, ht => by
    obtain ⟨n, -, rfl⟩ := List.mem_map.1 ht
    exact numT_kind n
  | .nam s, t, ht => by cases List.mem_singleton.1 ht; exact nameT_kind s
  | .mon i e, t, ht => by
    rcases List.mem_append.1 ht with h | h
    · exact vtok_kind t h
    · exact etok_kind e t h
  | .dy i a b, t, ht => by
    rcases List.mem_append.1 ht with h | h
    · split at h
      · exact etok_kind a t h
      · rcases List.mem_cons.1 h with h | h
        · rw [h]; decide
        · rcases List.mem_append.1 h with h | h
          · exact etok_kind a t h
          · cases List.mem_singleton.1 h; decide
    · rcases List.mem_append.1 h with h | h
      · exact vtok_kind t h
      · exact etok_kind b t h
theorem side_kind (d : SidP) : (sideT d).kind ≠ 4 := by unfold sideT; split; exact numT_kind _; exact nameT_kind _
theorem parse_step {V : Voc} {f n : Nat} {p : PrgP} {t : Tk} {l q : List Tk} (h : ∀ x ∈ t :: l, x.kind ≠ 4) : parseK V (f + 1) (t :: (l ++ lineT :: q)) p n = (intoQ V p n (overP p) t l).bind fun p' => parseK V f q p' (n + 1) := by
  rw [parseK, show t :: (l ++ lineT :: q) = (t :: l) ++ lineT :: q from rfl, take_line _ q h]
theorem sides_read {V : Voc} : ∀ (d acc : List SidP), (∀ x ∈ d, SideR V x) → acc.length + d.length ≤ 4 → sidesP V (d.map sideT) acc = some (acc ++ d)
  | [], acc, _, _ => by simp [sidesP]
  | x :: d, acc, h, hl => by
    have hx := h x List.mem_cons_self
    simp only [List.length_cons] at hl
    have h1 : ¬ ((sideT x).kind ≠ 2 ∧ ((sideT x).kind ≠ 1 ∨ V.name (sideT x).word = false)) ∧ (⟨(sideT x).word, (sideT x).n⟩ : SidP) = x := by
      obtain ⟨w, n⟩ := x
      unfold sideT
      by_cases hw : w = []
      · subst hw
        rw [if_pos rfl]
        exact ⟨fun ⟨h, _⟩ => h rfl, rfl⟩
      · rw [if_neg hw]
        rcases hx with ⟨e, _⟩ | ⟨hv, hn⟩
        · exact absurd e hw
        · dsimp only at hv hn
          subst hn
          refine ⟨fun ⟨_, h⟩ => ?_, rfl⟩
          rcases h with h | h
          · exact h rfl
          · rw [show (nameT w).word = w from rfl, hv] at h; cases h
    show sidesP V (sideT x :: d.map sideT) acc = _
    rw [sidesP, if_neg h1.1, if_neg (by omega), h1.2, sides_read d _ (fun y hy => h y (List.mem_cons_of_mem _ hy)) (by simp; omega)]
    simp
/-- the words that are no names -/
structure Kw (V : Voc) : Prop where
  none : V.name [] = false
  kin : V.name kwIn = false
  kout : V.name kwOut = false
theorem isWord_name (s w : Str) : isWord (nameT s) w = decide (s = w) := rfl
theorem parse_inputs {V : Voc} : ∀ (is acc : List InpP) (f n : Nat) (q : List Tk), (∀ x ∈ is, InpR V x) → n + is.length ≤ 63 → parseK V (is.length + f) (toksI is q) ⟨acc, []⟩ n = parseK V f q ⟨acc ++ is, []⟩ (n + is.length)
  | [], acc, f, n, q, _, _ => by simp [toksI]
  | x :: is, acc, f, n, q, h, hn => by
    obtain ⟨hv, hl, hs⟩ := h x List.mem_cons_self
    simp only [List.length_cons] at hn ⊢
    have hk : ∀ y ∈ nameT kwIn :: (nameT x.name :: x.sides.map sideT), y.kind ≠ 4 := by
      intro y hy
      rcases List.mem_cons.1 hy with e | e
      · rw [e]; decide
      · rcases List.mem_cons.1 e with e | e
        · rw [e]; exact nameT_kind _
        · obtain ⟨d, -, rfl⟩ := List.mem_map.1 e
          exact side_kind d
    have hi : intoQ V ⟨acc, []⟩ n (overP ⟨acc, []⟩) (nameT kwIn) (nameT x.name :: x.sides.map sideT) = some ⟨acc ++ [x], []⟩ := by
      unfold intoQ
      rw [if_neg (by omega), if_neg (by simp; omega), if_neg, if_pos (show isWord (nameT kwIn) kwIn = true by decide), inputP, if_neg, sides_read x.sides [] hs (by simpa using hl)]
      · rfl
      · rintro (h | h)
        · exact h rfl
        · rw [show (nameT x.name).word = x.name from rfl, hv] at h; cases h
      · rintro (h | h)
        · cases h
        · exact h.2 rfl
    rw [toksI, show is.length + 1 + f = (is.length + f) + 1 by omega, parse_step hk, hi]
    show parseK V (is.length + f) (toksI is q) ⟨acc ++ [x], []⟩ (n + 1) = _
    rw [parse_inputs is _ f (n + 1) q (fun y hy => h y (List.mem_cons_of_mem _ hy)) (by omega)]
    congr 1
    · simp
    · omega
def linOf (x : Str × Ex) : LinP := ⟨x.1, x.2.post⟩
theorem lines_over {V : Voc} (K : Kw V) (i : List InpP) (acc : List (Str × Ex)) (h : ∀ x ∈ acc, V.name x.1 = true ∧ ExR V 254 x.2) : overP ⟨i, acc.map linOf⟩ = false := by
  refine over_named K.none fun y hy => ?_
  obtain ⟨x, hx, rfl⟩ := List.mem_map.1 hy
  exact ⟨(h x hx).1, x.2, rfl, (h x hx).2⟩
theorem parse_lines (K : Kw L.V) : ∀ (ls acc : List (Str × Ex)) (i : List InpP) (f n : Nat) (q : List Tk), (∀ x ∈ ls, L.V.name x.1 = true ∧ ExR L.V 254 x.2) → (∀ x ∈ acc, L.V.name x.1 = true ∧ ExR L.V 254 x.2) → n + ls.length ≤ 63 →
    parseK L.V (ls.length + f) (toksL L ls q) ⟨i, acc.map linOf⟩ n = parseK L.V f q ⟨i, (acc ++ ls).map linOf⟩ (n + ls.length)
  | [], acc, i, f, n, q, _, _, _ => by simp [toksL]
  | x :: ls, acc, i, f, n, q, h, ha, hn => by
    obtain ⟨hv, he, hl, hne⟩ := h x List.mem_cons_self
    simp only [List.length_cons] at hn ⊢
    have hk : ∀ y ∈ nameT x.1 :: (signT 58 :: L.etok x.2), y.kind ≠ 4 := by
      intro y hy
      rcases List.mem_cons.1 hy with e | e
      · rw [e]; exact nameT_kind _
      · rcases List.mem_cons.1 e with e | e
        · rw [e]; decide
        · exact etok_kind _ y e
    have h1 : isWord (nameT x.1) kwIn = false := by
      rw [isWord_name, decide_eq_false_iff_not]
      intro e; rw [e, K.kin] at hv; cases hv
    have h2 : isWord (nameT x.1) kwOut = false := by
      rw [isWord_name, decide_eq_false_iff_not]
      intro e; rw [e, K.kout] at hv; cases hv
    have hi : intoQ L.V ⟨i, acc.map linOf⟩ n (overP ⟨i, acc.map linOf⟩) (nameT x.1) (signT 58 :: L.etok x.2) = some ⟨i, (acc ++ [x]).map linOf⟩ := by
      unfold intoQ
      rw [lines_over K i acc ha, if_neg (by omega), if_neg (by rw [List.length_cons, etok_len]; omega), h1, h2, if_neg (by simp), if_neg (by simp), if_neg, if_neg (by simp), if_neg (show ¬ (isSign (headT (signT 58 :: L.etok x.2)) 58 = false) from (show ¬ (isSign (signT 58) 58 = false) by decide))]
      · show (exprP L.V (L.etok x.2)).map _ = _
        rw [expr_read he hne]
        simp [linOf, nameT]
      · rintro ⟨_, h⟩
        rcases h with h | h
        · exact h rfl
        · rw [show (nameT x.1).word = x.1 from rfl, hv] at h; cases h
    rw [toksL, show ls.length + 1 + f = (ls.length + f) + 1 by omega, parse_step hk, hi]
    show parseK L.V (ls.length + f) (toksL L ls q) ⟨i, (acc ++ [x]).map linOf⟩ (n + 1) = _
    rw [parse_lines K ls _ i f (n + 1) q (fun y hy => h y (List.mem_cons_of_mem _ hy)) (fun y hy => ?_) (by omega)]
    · congr 1
      · simp
      · omega
    · rcases List.mem_append.1 hy with e | e
      · exact ha y e
      · cases List.mem_singleton.1 e; exact h x List.mem_cons_self
theorem toksI_len : ∀ (is : List InpP) (q : List Tk), is.length + q.length ≤ (toksI is q).length
  | [], q => by simp [toksI]
  | x :: is, q => by have := toksI_len is q; simp [toksI]; omega
theorem toksL_len : ∀ (ls : List (Str × Ex)) (q : List Tk), ls.length + q.length ≤ (toksL L ls q).length
  | [], q => by simp [toksL]
  | x :: ls, q => by have := toksL_len ls q; simp [toksL]; omega
theorem parse_read (K : Kw L.V) {T : PrgT} (h : FineT L.V T) : parseP L.V (T.toks L) = some T.post := by
  have hle := h.le
  obtain ⟨he, hl, hne⟩ := h.out
  unfold parseP PrgT.toks
  generalize hq : nameT kwOut :: (L.etok T.out ++ lineT :: []) = q
  have h1 := toksI_len T.inputs (toksL L T.lines q)
  have h2 := toksL_len (L := L) T.lines q
  have h3 : 2 ≤ q.length := by rw [← hq]; simp
  obtain ⟨k, hk⟩ : ∃ k, (toksI T.inputs (toksL L T.lines q)).length + 1 = T.inputs.length + (T.lines.length + (k + 1 + 1)) := ⟨(toksI T.inputs (toksL L T.lines q)).length + 1 - T.inputs.length - T.lines.length - 2, by omega⟩
  rw [hk, parse_inputs T.inputs [] _ 0 _ h.inputs (by omega)]
  have := parse_lines K T.lines [] ([] ++ T.inputs) (k + 1 + 1) (0 + T.inputs.length) q h.lines (fun x hx => (by cases hx)) (by omega)
  rw [show (⟨[] ++ T.inputs, []⟩ : PrgP) = ⟨[] ++ T.inputs, ([] : List (Str × Ex)).map linOf⟩ from rfl, this, ← hq, parse_step]
  · unfold intoQ
    rw [List.nil_append, List.nil_append, lines_over K _ T.lines h.lines, if_neg (by omega), if_neg (by rw [etok_len]; omega), if_neg, if_neg, if_neg, if_pos (show isWord (nameT kwOut) kwOut = true by decide), expr_read he hne]
    · show parseK L.V (k + 1) [] ⟨T.inputs, T.lines.map linOf ++ [⟨[], T.out.post⟩]⟩ (0 + T.inputs.length + T.lines.length + 1) = some T.post
      rw [parseK, if_pos (over_out _ _ _)]
      rfl
    · intro h; exact absurd h.1 (by decide)
    · decide
    · rintro (h | h)
      · cases h
      · exact absurd h.1 (by decide)
  · intro y hy
    rcases List.mem_cons.1 hy with e | e
    · rw [e]; decide
    · exact etok_kind _ y e
end Go.Proofs.YtokghjnkfabgiaaGreatDoor

namespace Go.Proofs.YtokghjnkfabgiaaGreatDoor
set_option maxRecDepth 100000
open Go.Lib
set_option linter.unusedVariables false
set_option linter.unusedSimpArgs false

/-! Programs shown: plain. What is read may be shown, and what is shown is read as the same. -/
def showSides (V : Voc) : List SidP → Str → Option Str
  | [], s => some s
  | d :: r, s => if d.name = [] then showSides V r (s ++ 32 :: numStr d.n) else if d.n = 0 ∧ V.name d.name = true then showSides V r (s ++ 32 :: d.name) else none
def showIns (V : Voc) : List InpP → Str → Option Str
  | [], s => some s
  | x :: r, s => if V.name x.name = false ∨ 4 < x.sides.length then none else (showSides V x.sides x.name).bind fun t => showIns V r (s ++ (kwIn ++ 32 :: t ++ [10]))
def showLines (L : Spl) : List LinP → Str → Option Str
  | [], s => some s
  | x :: r, s => (showX L x.items (if r = [] then 255 else 254)).bind fun t =>
    if (r = [] ∧ x.name ≠ []) ∨ (r ≠ [] ∧ (x.name = [] ∨ L.V.name x.name = false)) then none else showLines L r (s ++ ((if r = [] then kwOut ++ [32] else x.name ++ [58, 32]) ++ t ++ [10]))
def showProg (L : Spl) (p : PrgP) : Option Str :=
  if p.lines = [] ∨ 64 < p.inputs.length ∨ 64 - p.inputs.length < p.lines.length then none else (showIns L.V p.inputs []).bind (showLines L p.lines)
/-! texts -/
def sidesX : List SidP → Str → Str
  | [], s => s
  | d :: r, s => 32 :: (spellT (sideT d) ++ sidesX r s)
def insX : List InpP → Str → Str
  | [], s => s
  | x :: r, s => kwIn ++ (32 :: (x.name ++ sidesX x.sides (10 :: insX r s)))
def linesX (L : Spl) : List (Str × Ex) → Str → Str
  | [], s => s
  | x :: r, s => x.1 ++ (58 :: 32 :: (textE L x.2 ++ (10 :: linesX L r s)))
def PrgT.text (L : Spl) (T : PrgT) : Str := insX T.inputs (linesX L T.lines (kwOut ++ (32 :: (textE L T.out ++ [10]))))
variable {L : Spl}
theorem spell_side {d : SidP} : spellT (sideT d) = if d.name = [] then numStr d.n else d.name := by
  unfold sideT
  split <;> rfl
theorem show_sides {V : Voc} : ∀ (l : List SidP) (s : Str), (∀ d ∈ l, SideR V d) → showSides V l s = some (s ++ sidesX l [])
  | [], s, _ => by simp [showSides, sidesX]
  | d :: l, s, h => by
    have ih := fun s => show_sides l s fun x hx => h x (List.mem_cons_of_mem _ hx)
    rw [showSides, sidesX, spell_side]
    by_cases hd : d.name = []
    · rw [if_pos hd, if_pos hd, ih]; simp
    · rw [if_neg hd, if_neg hd, if_pos, ih]
      · simp
      · rcases h d List.mem_cons_self with ⟨e, _⟩ | ⟨hv, hn⟩
        · exact absurd e hd
        · exact ⟨hn, hv⟩
theorem sidesX_app : ∀ (l : List SidP) (s t : Str), sidesX l s ++ t = sidesX l (s ++ t)
  | [], s, t => rfl
  | d :: l, s, t => by simp [sidesX, sidesX_app l s t]
theorem insX_app : ∀ (l : List InpP) (s t : Str), insX l s ++ t = insX l (s ++ t)
  | [], s, t => rfl
  | d :: l, s, t => by simp [insX, sidesX_app, insX_app l s t]
theorem linesX_app : ∀ (l : List (Str × Ex)) (s t : Str), linesX L l s ++ t = linesX L l (s ++ t)
  | [], s, t => rfl
  | d :: l, s, t => by simp [linesX, linesX_app l s t]
theorem show_ins {V : Voc} : ∀ (l : List InpP) (s : Str), (∀ x ∈ l, InpR V x) → showIns V l s = some (s ++ insX l [])
  | [], s, _ => by simp [showIns, insX]
  | x :: l, s, h => by
    obtain ⟨hv, hl, hs⟩ := h x List.mem_cons_self
    rw [showIns, if_neg, show_sides x.sides x.name hs]
    · show showIns V l _ = _
      rw [show_ins l _ fun y hy => h y (List.mem_cons_of_mem _ hy), insX]
      simp [sidesX_app]
    · rintro (e | e)
      · rw [hv] at e; cases e
      · omega
theorem show_lines (K : Kw L.V) {o : Ex} (ho : ExR L.V 255 o) : ∀ (l : List (Str × Ex)) (s : Str), (∀ x ∈ l, L.V.name x.1 = true ∧ ExR L.V 254 x.2) →
    showLines L (l.map linOf ++ [⟨[], o.post⟩]) s = some (s ++ linesX L l (kwOut ++ (32 :: (textE L o ++ [10]))))
  | [], s, _ => by
    obtain ⟨he, hl, hn⟩ := ho
    show showLines L [⟨[], o.post⟩] s = _
    rw [showLines, if_pos rfl, show_tree he (by omega) hl hn]
    rw [Option.bind_some, if_neg, showLines, linesX]
    · simp
    · rintro (⟨_, h⟩ | ⟨h, _⟩) <;> exact h rfl
  | x :: l, s, h => by
    obtain ⟨hv, he, hl, hn⟩ := h x List.mem_cons_self
    have hne : l.map linOf ++ [(⟨[], o.post⟩ : LinP)] ≠ [] := by simp
    have hnm : x.1 ≠ [] := fun e => by rw [e, K.none] at hv; cases hv
    show showLines L (linOf x :: (l.map linOf ++ [⟨[], o.post⟩])) s = _
    rw [showLines, if_neg hne, show (linOf x).items = x.2.post from rfl, show_tree he (by omega) hl hn]
    rw [Option.bind_some, if_neg, if_neg hne, show_lines K ho l _ fun y hy => h y (List.mem_cons_of_mem _ hy), linesX]
    · simp [linOf]
    · rintro (⟨h, _⟩ | ⟨_, h | h⟩)
      · exact hne h
      · exact hnm h
      · rw [show (linOf x).name = x.1 from rfl, hv] at h; cases h
theorem show_prog (K : Kw L.V) {T : PrgT} (h : FineT L.V T) : showProg L T.post = some (T.text L) := by
  have hle := h.le
  unfold showProg
  rw [if_neg, show T.post.inputs = T.inputs from rfl, show_ins T.inputs [] h.inputs]
  · show showLines L T.post.lines _ = _
    rw [show T.post.lines = T.lines.map linOf ++ [⟨[], T.out.post⟩] from rfl, show_lines K h.out T.lines _ h.lines]
    unfold PrgT.text
    rw [List.nil_append, insX_app, List.nil_append]
  · rintro (e | e | e)
    · simp [PrgT.post] at e
    · rw [show T.post.inputs = T.inputs from rfl] at e; omega
    · simp [PrgT.post] at e; omega
/-! the text is laid -/
theorem spell_name (s : Str) : spellT (nameT s) = s := rfl
theorem right_kwIn : RightT (nameT kwIn) := .inl ⟨rfl, rfl, 105, [110], rfl, by decide, by decide, by decide⟩
theorem right_kwOut : RightT (nameT kwOut) := .inl ⟨rfl, rfl, 111, [117, 116], rfl, by decide, by decide, by decide⟩
theorem right_line : RightT lineT := .inr (.inr (.inr rfl))
theorem laid_line {s : Str} {q : List Tk} (h : Laid s q) : Laid (10 :: s) (lineT :: q) :=
  Laid.tok (t := lineT) right_line (fun b _ => ⟨fun e => absurd e (by decide), fun e => absurd e (by decide), fun e => e.elim (fun e => absurd e (by decide)) (fun e => absurd e (by decide))⟩) h
theorem right_side (R : SplR L) {d : SidP} (h : SideR L.V d) : RightT (sideT d) := by
  unfold sideT
  rcases h with ⟨e, hi⟩ | ⟨hv, hn⟩
  · rw [if_pos e]; exact right_num hi
  · by_cases e : d.name = []
    · rw [if_pos e, hn]; exact right_num (by decide)
    · rw [if_neg e]; exact R.name _ hv
theorem soft_sides {l : List SidP} {s : Str} (h : Soft s) : Soft (sidesX l s) := by
  cases l with
  | nil => exact h
  | cons d l => exact soft_blank _
theorem laid_sides (R : SplR L) : ∀ (l : List SidP) (s : Str) (q : List Tk), (∀ d ∈ l, SideR L.V d) → Soft s → Laid s q → Laid (sidesX l s) (l.map sideT ++ q)
  | [], s, q, _, _, h => h
  | d :: l, s, q, hd, hs, h => .blank (.tok (right_side R (hd d List.mem_cons_self)) (soft_stop (soft_sides hs)) (laid_sides R l s q (fun x hx => hd x (List.mem_cons_of_mem _ hx)) hs h))
theorem laid_ins (R : SplR L) : ∀ (l : List InpP) (s : Str) (q : List Tk), (∀ x ∈ l, InpR L.V x) → Laid s q → Laid (insX l s) (toksI l q)
  | [], s, q, _, h => h
  | x :: l, s, q, hx, h => by
    obtain ⟨hv, hl, hs⟩ := hx x List.mem_cons_self
    have h1 := laid_line (laid_ins R l s q (fun y hy => hx y (List.mem_cons_of_mem _ hy)) h)
    have h2 := laid_sides R x.sides _ _ hs (soft_line _) h1
    have h3 := Laid.tok (R.name _ hv) (soft_stop (soft_sides (l := x.sides) (soft_line _))) h2
    exact Laid.tok right_kwIn (stop_blank _ _) (.blank h3)
theorem right_colon : RightT (signT 58) := .inr (.inr (.inl ⟨rfl, rfl, .inl ⟨58, rfl, by decide⟩⟩))
theorem soft_colon (s : Str) : Soft (58 :: s) := fun b h => by cases h; decide
theorem laid_lines (R : SplR L) : ∀ (l : List (Str × Ex)) (s : Str) (q : List Tk), (∀ x ∈ l, L.V.name x.1 = true ∧ ExR L.V 254 x.2) → Laid s q → Laid (linesX L l s) (toksL L l q)
  | [], s, q, _, h => h
  | x :: l, s, q, hx, h => by
    obtain ⟨hv, he, -, -⟩ := hx x List.mem_cons_self
    have h1 := laid_line (laid_lines R l s q (fun y hy => hx y (List.mem_cons_of_mem _ hy)) h)
    have h2 := laid_ex R x.2 _ _ he (soft_line _) h1
    have h3 := Laid.tok right_colon (stop_blank _ _) (.blank h2)
    exact Laid.tok (R.name _ hv) (soft_stop (soft_colon _)) h3
theorem laid_prog (R : SplR L) {T : PrgT} (h : FineT L.V T) : Laid (T.text L) (T.toks L) := by
  obtain ⟨he, -, -⟩ := h.out
  refine laid_ins R _ _ _ h.inputs (laid_lines R _ _ _ h.lines ?_)
  exact Laid.tok right_kwOut (stop_blank _ _) (.blank (laid_ex R T.out _ _ he (soft_line _) (laid_line .nil)))
theorem laid_right {s : Str} {l : List Tk} (h : Laid s l) : ∀ t ∈ l, RightT t := by
  induction h with
  | nil => intro t ht; cases ht
  | blank _ ih => exact ih
  | tok ht _ _ ih =>
    intro x hx
    rcases List.mem_cons.1 hx with e | e
    · rw [e]; exact ht
    · exact ih x e
/-- the law: what is read is shown; its text is read as it, and so are its tokens with blanks between -/
theorem spelled (K : Kw L.V) (R : SplR L) {toks : List (Tk × Nat)} {s : Str} {p : PrgP} (hx : lexP s = some toks) (hp : parseP L.V (bare toks) = some p) :
    ∃ t l, showProg L p = some t ∧ (∀ x ∈ l, RightT x) ∧ parseP L.V l = some p ∧ (t.length ≤ 65536 → ∃ q, lexP t = some q ∧ bare q = l) ∧ ∀ k, (spaced k l).length ≤ 65536 → ∃ q, lexP (spaced k l) = some q ∧ bare q = l := by
  have hr : ∀ x ∈ bare toks, RightT x := by
    unfold lexP at hx
    split at hx
    · cases hx
    · intro x hm
      obtain ⟨y, hy, rfl⟩ := List.mem_map.1 hm
      exact lex_right _ _ _ _ hx y hy
  have hR : RightP L.V p := by
    refine parse_right K.none _ _ ⟨[], []⟩ p 0 hp hr (.inl ⟨fun x h => (by cases h), fun x h => (by cases h), rfl, by omega⟩)
  obtain ⟨T, rfl, hT⟩ := right_tree hR
  have hl := laid_prog R hT
  have hread : ∀ u : Str, Laid u (T.toks L) → u.length ≤ 65536 → ∃ q, lexP u = some q ∧ bare q = T.toks L := fun u hu hlen => by
    obtain ⟨q, h1, h2⟩ := laid_lex hu 0
    exact ⟨q, by unfold lexP; rw [if_neg (by omega)]; exact h1, h2⟩
  exact ⟨T.text L, T.toks L, show_prog K hT, laid_right hl, parse_read K hT, hread _ hl, fun k => hread _ (laid_spaced k (laid_right hl))⟩
end Go.Proofs.YtokghjnkfabgiaaGreatDoor
