import Derived.Lib.ItoaNum
import Derived.Lib.Atoi
set_option linter.unusedVariables false
set_option linter.unusedSimpArgs false
set_option maxRecDepth 100000
namespace Go.Proofs.YtokghjnkfabgiaaGreatDoor

abbrev Str := List UInt8
structure Tk where
 kind : Int
 word : Str
 n : Int
structure Itm where
 how : Int
 fn : Int
 name : Str
 nums : List Int
structure Voc where
 two : Str → Int
 one : Str → Int
 name : Str → Bool
def Voc.verb (V : Voc) (s : Str) : Bool := V.one s != 0 || V.two s != 0
def lineT : Tk := ⟨4, [], 0⟩
def signT (b : UInt8) : Tk := ⟨3, [b], 0⟩
def headT (r : List Tk) : Tk := r.headD lineT
def isSign (t : Tk) (b : UInt8) : Bool := t.kind == 3 && decide (t.word = [b])
def phraseQ (V : Voc) (left : Bool) (t op : Tk) (r1 r2 : List Tk) : Option (Itm × List Tk) :=
 if op.kind = 3 ∧ (op.word = [47] ∨ op.word = [92] ∨ op.word = [46]) then
  if 17 < V.two t.word ∨ (decide (op.word = [46]) != left) = true then none
  else if V.two t.word = 0 then none
  else some (⟨if op.word = [47] then 5 else if op.word = [92] then 6 else 7, V.two t.word, [], []⟩, r2)
 else if (if left = true then V.two t.word else V.one t.word) = 0 then none else some (⟨if left = true then 4 else 3, if left = true then V.two t.word else V.one t.word, [], []⟩, r1)
def phraseP (V : Voc) (left : Bool) (r : List Tk) : Option (Itm × List Tk) := phraseQ V left (headT r) (headT r.tail) r.tail r.tail.tail
def numsP : List Tk → List Int × List Tk
 | [] => ([], [])
 | t :: r => if t.kind = 2 then (t.n :: (numsP r).1, (numsP r).2) else ([], t :: r)
def finishP : List Itm → List (Option Itm) → List Itm × List (Option Itm)
 | out, some i :: r => finishP (out ++ [i]) r
 | out, r => (out, r)
structure PS where
 rest : List Tk
 out : List Itm
 todo : List (Option Itm)
 opn : Nat
def closeP : List Tk → List Itm → List (Option Itm) → Nat → PS
 | t :: r, out, todo, k + 1 =>
  if isSign t 41 then closeP r (finishP out todo).1 (finishP out todo).2.tail k else ⟨t :: r, out, todo, k + 1⟩
 | r, out, todo, k => ⟨r, out, todo, k⟩
def wantQ (V : Voc) (K : Bool → PS → Option (List Itm)) (t : Tk) (s : PS) : Option (List Itm) :=
 if t.kind ≠ 2 ∧ t.kind ≠ 4 ∧ V.verb t.word = true then (phraseP V false s.rest).bind fun p => K true ⟨p.2, s.out, some p.1 :: s.todo, s.opn⟩
 else if isSign t 40 = true then (if s.opn = 32 then none else K true ⟨s.rest.tail, s.out, none :: s.todo, s.opn + 1⟩)
 else if t.kind = 2 then K false ⟨(numsP s.rest).2, s.out ++ [⟨1, 0, [], (numsP s.rest).1⟩], s.todo, s.opn⟩
 else if t.kind = 1 ∧ V.name t.word = true then K false ⟨s.rest.tail, s.out ++ [⟨2, 0, t.word, []⟩], s.todo, s.opn⟩
 else none
def behQ (V : Voc) (K : Bool → PS → Option (List Itm)) (t : Tk) (s : PS) : Option (List Itm) :=
 if t.kind = 4 then (if 0 < s.opn then none else some (finishP s.out s.todo).1)
 else if t.kind = 2 ∨ V.verb t.word = false then none
 else (phraseP V true s.rest).bind fun p => K true ⟨p.2, s.out, some p.1 :: s.todo, s.opn⟩
def exprK (V : Voc) : Nat → Bool → PS → Option (List Itm)
 | 0, _, _ => none
 | f + 1, true, s => wantQ V (fun b s => exprK V f b s) (headT s.rest) s
 | f + 1, false, s => behQ V (fun b s => exprK V f b s) (headT (closeP s.rest s.out s.todo s.opn).rest) (closeP s.rest s.out s.todo s.opn)
inductive Ex where
 | num (l : List Int)
 | nam (s : Str)
 | mon (i : Itm) (e : Ex)
 | dy (i : Itm) (a b : Ex)
def Ex.post : Ex → List Itm
 | .num l => [⟨1, 0, [], l⟩]
 | .nam s => [⟨2, 0, s, []⟩]
 | .mon i e => e.post ++ [i]
 | .dy i a b => a.post ++ b.post ++ [i]
def Ex.plain : Ex → Bool
 | .num _ => true
 | .nam _ => true
 | _ => false
def vlen (i : Itm) : Nat := if i.how = 3 ∨ i.how = 4 then 1 else 2
def Ex.len : Ex → Nat
 | .num l => l.length
 | .nam _ => 1
 | .mon i e => vlen i + e.len
 | .dy i a b => a.len + (if a.plain then 0 else 2) + vlen i + b.len
def Ex.llen (e : Ex) : Nat := e.len + if e.plain then 0 else 2
def Ex.nest : Ex → Nat
 | .num _ => 0
 | .nam _ => 0
 | .mon _ e => e.nest
 | .dy _ a b => max b.nest (a.nest + if a.plain then 0 else 1)
def Ex.lnest (e : Ex) : Nat := e.nest + if e.plain then 0 else 1
def VI (V : Voc) (two : Bool) (i : Itm) : Prop := i.name = [] ∧ i.nums = [] ∧ ∃ s, (i.how = 3 ∧ two = false ∧ V.one s = i.fn ∧ i.fn ≠ 0) ∨ (i.how = 4 ∧ two = true ∧ V.two s = i.fn ∧ i.fn ≠ 0) ∨ ((i.how = 5 ∨ i.how = 6) ∧ two = false ∧ V.two s = i.fn ∧ i.fn ≠ 0 ∧ i.fn ≤ 17) ∨ (i.how = 7 ∧ two = true ∧ V.two s = i.fn ∧ i.fn ≠ 0 ∧ i.fn ≤ 17)
def Ex.fine (V : Voc) (P : Int → Prop) : Ex → Prop
 | .num l => l ≠ [] ∧ ∀ x ∈ l, P x
 | .nam s => V.name s = true
 | .mon i e => VI V false i ∧ e.fine V P
 | .dy i a b => VI V true i ∧ a.fine V P ∧ b.fine V P
inductive Fr where
 | mon (i : Itm)
 | dy (i : Itm) (a : Ex)
 | opn
def Fr.item : Fr → Option Itm
 | .mon i => some i
 | .dy i _ => some i
 | .opn => none
def outF : List Fr → List Itm
 | [] => []
 | .dy _ a :: r => outF r ++ a.post
 | _ :: r => outF r
def lenF : List Fr → Nat
 | [] => 0
 | .mon i :: r => vlen i + lenF r
 | .dy i a :: r => a.llen + vlen i + lenF r
 | .opn :: r => 1 + lenF r
def opnF : List Fr → Nat
 | [] => 0
 | .opn :: r => opnF r + 1
 | _ :: r => opnF r
def fineF (V : Voc) (P : Int → Prop) : List Fr → Prop
 | [] => True
 | .mon i :: r => VI V false i ∧ fineF V P r
 | .dy i a :: r => VI V true i ∧ a.fine V P ∧ a.lnest + opnF r ≤ 32 ∧ fineF V P r
 | .opn :: r => fineF V P r
def upF : List Fr → Ex → Ex × List Fr
 | .mon i :: r, e => upF r (.mon i e)
 | .dy i a :: r, e => upF r (.dy i a e)
 | r, e => (e, r)
theorem finish_up : ∀ (F : List Fr) (e : Ex), finishP (outF F ++ e.post) (F.map Fr.item) = (outF (upF F e).2 ++ (upF F e).1.post, (upF F e).2.map Fr.item)
 | [], e => by simp [finishP, upF, outF]
 | .mon i :: r, e => by
  have := finish_up r (.mon i e)
  simp only [List.map_cons, Fr.item, finishP, outF, upF]
  rw [← this, Ex.post, List.append_assoc]
 | .dy i a :: r, e => by
  have := finish_up r (.dy i a e)
  simp only [List.map_cons, Fr.item, finishP, outF, upF]
  rw [← this, Ex.post]
  simp [List.append_assoc]
 | .opn :: r, e => by simp [finishP, upF, outF, Fr.item]
theorem up_facts {V : Voc} {P : Int → Prop} : ∀ (F : List Fr) (e : Ex), fineF V P F → e.fine V P → e.nest + opnF F ≤ 32 →
  (upF F e).1.fine V P ∧ fineF V P (upF F e).2 ∧ (upF F e).1.len + lenF (upF F e).2 = e.len + lenF F ∧ (upF F e).1.nest + opnF F ≤ 32 ∧ opnF (upF F e).2 = opnF F ∧ ((upF F e).2 = [] ∨ ∃ r, (upF F e).2 = .opn :: r)
 | [], e, hF, he, hn => ⟨he, trivial, rfl, hn, rfl, .inl rfl⟩
 | .mon i :: r, e, hF, he, hn => by
  obtain ⟨h1, h2, h3, h4, h5, h6⟩ := up_facts r (.mon i e) hF.2 ⟨hF.1, he⟩ hn
  exact ⟨h1, h2, by rw [upF, h3]; simp only [Ex.len, lenF]; omega, h4, h5, h6⟩
 | .dy i a :: r, e, hF, he, hn => by
  obtain ⟨g1, g2, g3, g4⟩ := hF
  have hn' : (Ex.dy i a e).nest + opnF r ≤ 32 := by
   simp only [Ex.nest]
   unfold Ex.lnest at g3
   simp only [opnF] at hn
   omega
  obtain ⟨h1, h2, h3, h4, h5, h6⟩ := up_facts r (.dy i a e) g4 ⟨g1, g2, he⟩ hn'
  exact ⟨h1, h2, by rw [upF, h3]; simp only [Ex.len, lenF, Ex.llen]; omega, h4, h5, h6⟩
 | .opn :: r, e, hF, he, hn => ⟨he, hF, rfl, hn, rfl, .inr ⟨r, rfl⟩⟩
end Go.Proofs.YtokghjnkfabgiaaGreatDoor

namespace Go.Proofs.YtokghjnkfabgiaaGreatDoor

theorem phrase_facts {V : Voc} {left : Bool} {t : Tk} {r r' : List Tk} {i : Itm} (h : phraseP V left (t :: r) = some (i, r')) :
  VI V left i ∧ vlen i + r'.length = (t :: r).length ∧ ∀ x ∈ r', x ∈ t :: r := by
 change phraseQ V left t (r.headD lineT) r r.tail = some (i, r') at h
 obtain ⟨o, ho⟩ : ∃ o, r.headD lineT = o := ⟨_, rfl⟩
 rw [ho] at h
 unfold phraseQ at h
 by_cases hop : o.kind = 3 ∧ (o.word = [47] ∨ o.word = [92] ∨ o.word = [46])
 ·rw [if_pos hop] at h
  by_cases h1 : 17 < V.two t.word ∨ (decide (o.word = [46]) != left) = true
  ·rw [if_pos h1] at h; cases h
  rw [if_neg h1] at h
  by_cases h2 : V.two t.word = 0
  ·rw [if_pos h2] at h; cases h
  rw [if_neg h2] at h
  have hr : ∃ r2, r = o :: r2 := by
   cases r with
   | nil => rw [← ho] at hop; exact absurd hop.1 (by simp [lineT])
   | cons o' r2 => exact ⟨r2, by rw [← ho]; rfl⟩
  obtain ⟨r2, rfl⟩ := hr
  simp only [Option.some.injEq, Prod.mk.injEq] at h
  obtain ⟨rfl, rfl⟩ := h
  have h17 : V.two t.word ≤ 17 := by omega
  have hl : decide (o.word = [46]) = left := by
   have : ¬ (decide (o.word = [46]) != left) = true := fun e => h1 (.inr e)
   simpa using this
  refine ⟨⟨rfl, rfl, t.word, ?_⟩, ?_, fun x hx => List.mem_cons_of_mem _ (List.mem_cons_of_mem _ hx)⟩
  ·rcases hop.2 with e | e | e
   ·have : left = false := by rw [← hl, e]; decide
    exact .inr (.inr (.inl ⟨.inl (by simp [e]), this, rfl, h2, h17⟩))
   ·have : left = false := by rw [← hl, e]; decide
    exact .inr (.inr (.inl ⟨.inr (by simp [e]), this, rfl, h2, h17⟩))
   ·have : left = true := by rw [← hl, e]; decide
    exact .inr (.inr (.inr ⟨by simp [e], this, rfl, h2, h17⟩))
  ·have : ¬ ((if o.word = [47] then (5 : Int) else if o.word = [92] then 6 else 7) = 3 ∨ (if o.word = [47] then (5 : Int) else if o.word = [92] then 6 else 7) = 4) := by split <;> (try split) <;> decide
   show (if _ then 1 else 2) + r2.length = _
   rw [if_neg this]
   simp
   omega
 ·rw [if_neg hop] at h
  by_cases h2 : (if left = true then V.two t.word else V.one t.word) = 0
  ·rw [if_pos h2] at h; cases h
  rw [if_neg h2] at h
  simp only [Option.some.injEq, Prod.mk.injEq] at h
  obtain ⟨rfl, rfl⟩ := h
  refine ⟨⟨rfl, rfl, t.word, ?_⟩, ?_, fun x hx => List.mem_cons_of_mem _ hx⟩
  ·cases left with
   | true => exact .inr (.inl ⟨rfl, rfl, rfl, h2⟩)
   | false => exact .inl ⟨rfl, rfl, rfl, h2⟩
  ·have : ((if left = true then (4 : Int) else 3) = 3 ∨ (if left = true then (4 : Int) else 3) = 4) := by cases left <;> decide
   show (if _ then 1 else 2) + r.length = _
   rw [if_pos this]
   simp
   omega
theorem nums_facts : ∀ r : List Tk, (numsP r).1.length + (numsP r).2.length = r.length ∧ (∀ x ∈ (numsP r).2, x ∈ r) ∧ ∀ n ∈ (numsP r).1, ∃ t ∈ r, t.kind = 2 ∧ t.n = n
 | [] => ⟨rfl, fun x h => h, fun n h => by cases h⟩
 | t :: r => by
  obtain ⟨h1, h2, h3⟩ := nums_facts r
  rw [numsP]
  split
  ·rename_i hk
   refine ⟨by simp only [List.length_cons]; omega, fun x hx => List.mem_cons_of_mem _ (h2 x hx), fun n hn => ?_⟩
   rcases List.mem_cons.1 hn with e | e
   ·exact ⟨t, List.mem_cons_self, hk, e.symm⟩
   ·obtain ⟨u, hu, e1, e2⟩ := h3 n e
    exact ⟨u, List.mem_cons_of_mem _ hu, e1, e2⟩
  ·exact ⟨by simp, fun x hx => hx, fun n hn => by cases hn⟩
structure Beh (V : Voc) (P : Int → Prop) (N : Nat) (F : List Fr) (e : Ex) (s : PS) : Prop where
 out : s.out = outF F ++ e.post
 todo : s.todo = F.map Fr.item
 opn : s.opn = opnF F
 fF : fineF V P F
 fe : e.fine V P
 nest : e.lnest + opnF F ≤ 32
 len : lenF F + e.llen + s.rest.length ≤ N
 nums : ∀ t ∈ s.rest, t.kind = 2 → P t.n
structure Wan (V : Voc) (P : Int → Prop) (N : Nat) (F : List Fr) (s : PS) : Prop where
 out : s.out = outF F
 todo : s.todo = F.map Fr.item
 opn : s.opn = opnF F
 le : opnF F ≤ 32
 fF : fineF V P F
 len : lenF F + s.rest.length ≤ N
 nums : ∀ t ∈ s.rest, t.kind = 2 → P t.n
theorem close_beh {V : Voc} {P : Int → Prop} {N : Nat} : ∀ (r : List Tk) (out : List Itm) (todo : List (Option Itm)) (k : Nat) (F : List Fr) (e : Ex), Beh V P N F e ⟨r, out, todo, k⟩ → ∃ F' e', Beh V P N F' e' (closeP r out todo k)
 | [], out, todo, 0, F, e, h => ⟨F, e, h⟩
 | [], out, todo, k + 1, F, e, h => ⟨F, e, h⟩
 | t :: r, out, todo, 0, F, e, h => ⟨F, e, h⟩
 | t :: r, out, todo, k + 1, F, e, h => by
  rw [closeP]
  by_cases hs : isSign t 41 = true
  ·rw [if_pos hs]
   obtain ⟨h1, h2, h3, h4, h5, h6⟩ := up_facts F e h.fF h.fe (by have := h.nest; unfold Ex.lnest at this; omega)
   have hfin := finish_up F e
   have hout := h.out
   have htodo := h.todo
   dsimp only at hout htodo
   have ho : opnF F = k + 1 := h.opn.symm
   rcases h6 with h6 | ⟨G, hG⟩
   ·rw [h6] at h5
    simp only [opnF] at h5
    omega
   ·rw [hG] at h5 h3 h2 hfin
    simp only [opnF] at h5
    refine close_beh r _ _ k G (upF F e).1 ⟨?_, ?_, ?_, h2, h1, ?_, ?_, fun x hx => h.nums x (List.mem_cons_of_mem _ hx)⟩
    ·dsimp only
     rw [hout, htodo, hfin]
     rfl
    ·dsimp only
     rw [hout, htodo, hfin]
     rfl
    ·dsimp only; omega
    ·unfold Ex.lnest; split <;> omega
    ·have := h.len
     simp only [lenF] at h3
     simp only [List.length_cons] at this
     dsimp only
     unfold Ex.llen at this ⊢
     have h7 : (if (upF F e).1.plain = true then 0 else 2) ≤ 2 := by split <;> omega
     omega
  ·rw [if_neg hs]
   exact ⟨F, e, h⟩
theorem close_rest : ∀ (r : List Tk) (out : List Itm) (todo : List (Option Itm)) (k : Nat), (closeP r out todo k).rest.length ≤ r.length
 | [], out, todo, 0 => Nat.le_refl _
 | [], out, todo, k + 1 => Nat.le_refl _
 | t :: r, out, todo, 0 => Nat.le_refl _
 | t :: r, out, todo, k + 1 => by
  rw [closeP]
  split
  ·exact Nat.le_trans (close_rest r _ _ k) (by simp)
  ·exact Nat.le_refl _
theorem expr_sound {V : Voc} {P : Int → Prop} {N : Nat} : ∀ (f : Nat) (s : PS) (l : List Itm),
  (∀ F, Wan V P N F s → exprK V f true s = some l → ∃ e : Ex, l = e.post ∧ e.fine V P ∧ e.len ≤ N ∧ e.nest ≤ 32) ∧
  (∀ F e, Beh V P N F e s → exprK V f false s = some l → ∃ e : Ex, l = e.post ∧ e.fine V P ∧ e.len ≤ N ∧ e.nest ≤ 32)
 | 0, s, l => ⟨fun F h e => (by cases e), fun F e h e2 => (by cases e2)⟩
 | f + 1, s, l => by
  refine ⟨fun F h he => ?_, fun F e h he => ?_⟩
  ·obtain ⟨rest, out, todo, opn⟩ := s
   cases rest with
   | nil =>
    rw [exprK] at he
    simp [wantQ, headT, lineT, isSign] at he
   | cons t r =>
    change wantQ V (fun b s => exprK V f b s) t ⟨t :: r, out, todo, opn⟩ = some l at he
    unfold wantQ at he
    by_cases hv : t.kind ≠ 2 ∧ t.kind ≠ 4 ∧ V.verb t.word = true
    ·rw [if_pos hv] at he
     cases hp : phraseP V false (t :: r) with
     | none => dsimp only at he; rw [hp] at he; cases he
     | some p =>
      obtain ⟨i, r'⟩ := p
      dsimp only at he
      rw [hp] at he
      dsimp only [Option.bind] at he
      obtain ⟨g1, g2, g3⟩ := phrase_facts hp
      refine (expr_sound f ⟨r', out, some i :: todo, opn⟩ l).1 (.mon i :: F) ⟨h.out, ?_, h.opn, h.le, ⟨g1, h.fF⟩, ?_, fun x hx => h.nums x (g3 x hx)⟩ he
      ·show some i :: todo = _
       rw [show todo = F.map Fr.item from h.todo]; rfl
      ·have := h.len
       simp only [lenF]
       dsimp only at this ⊢
       omega
    rw [if_neg hv] at he
    by_cases hs : isSign t 40 = true
    ·rw [if_pos hs] at he
     by_cases h32 : opn = 32
     ·rw [if_pos h32] at he; cases he
     rw [if_neg h32] at he
     have ho : opn = opnF F := h.opn
     refine (expr_sound f ⟨r, out, none :: todo, opn + 1⟩ l).1 (.opn :: F) ⟨h.out, ?_, ?_, ?_, h.fF, ?_, fun x hx => h.nums x (List.mem_cons_of_mem _ hx)⟩ he
     ·show none :: todo = _
      rw [show todo = F.map Fr.item from h.todo]; rfl
     ·show opn + 1 = _
      rw [ho]; rfl
     ·have := h.le
      simp only [opnF]
      omega
     ·have := h.len
      simp only [lenF, List.length_cons] at this ⊢
      try dsimp only [List.tail_cons] at this ⊢
      omega
    rw [if_neg hs] at he
    by_cases hk : t.kind = 2
    ·rw [if_pos hk] at he
     obtain ⟨g1, g2, g3⟩ := nums_facts (t :: r)
     have hne : (numsP (t :: r)).1 ≠ [] := by rw [numsP, if_pos hk]; simp
     refine (expr_sound f ⟨(numsP (t :: r)).2, out ++ [(⟨1, 0, [], (numsP (t :: r)).1⟩ : Itm)], todo, opn⟩ l).2 F (.num (numsP (t :: r)).1) ⟨?_, h.todo, h.opn, h.fF, ⟨hne, fun x hx => ?_⟩, ?_, ?_, fun x hx => h.nums x (g2 x hx)⟩ he
     ·show out ++ _ = _
      rw [show out = outF F from h.out]; rfl
     ·obtain ⟨u, hu, e1, e2⟩ := g3 x hx
      exact e2 ▸ h.nums u hu e1
     ·have := h.le
      simp only [Ex.lnest, Ex.nest, Ex.plain]
      simpa using this
     ·have := h.len
      simp only [Ex.llen, Ex.len, Ex.plain]
      dsimp only at this ⊢
      simp only [if_true]
      omega
    rw [if_neg hk] at he
    by_cases hn : t.kind = 1 ∧ V.name t.word = true
    ·rw [if_pos hn] at he
     refine (expr_sound f ⟨r, out ++ [(⟨2, 0, t.word, []⟩ : Itm)], todo, opn⟩ l).2 F (.nam t.word) ⟨?_, h.todo, h.opn, h.fF, hn.2, ?_, ?_, fun x hx => h.nums x (List.mem_cons_of_mem _ hx)⟩ he
     ·show out ++ _ = _
      rw [show out = outF F from h.out]; rfl
     ·have := h.le
      simp only [Ex.lnest, Ex.nest, Ex.plain]
      simpa using this
     ·have := h.len
      simp only [Ex.llen, Ex.len, Ex.plain]
      try dsimp only [List.tail_cons] at this ⊢
      simp only [if_true, List.length_cons] at this ⊢
      omega
    rw [if_neg hn] at he
    cases he
  ·rw [exprK] at he
   obtain ⟨F', e', hb⟩ := close_beh s.rest s.out s.todo s.opn F e h
   obtain ⟨s', hs'⟩ : ∃ s', closeP s.rest s.out s.todo s.opn = s' := ⟨_, rfl⟩
   rw [hs'] at he hb
   obtain ⟨t, ht⟩ : ∃ t, headT s'.rest = t := ⟨_, rfl⟩
   rw [ht] at he
   unfold behQ at he
   by_cases h4 : t.kind = 4
   ·rw [if_pos h4] at he
    by_cases h0 : 0 < s'.opn
    ·rw [if_pos h0] at he; cases he
    rw [if_neg h0] at he
    obtain ⟨h1, h2, h3, h4, h5, h6⟩ := up_facts F' e' hb.fF hb.fe (by have := hb.nest; unfold Ex.lnest at this; omega)
    have hfin := finish_up F' e'
    have ho : opnF F' = 0 := by have := hb.opn; omega
    have hnil : (upF F' e').2 = [] := by
     rcases h6 with h6 | ⟨G, hG⟩
     ·exact h6
     ·rw [hG] at h5; simp only [opnF] at h5; omega
    simp only [Option.some.injEq] at he
    refine ⟨(upF F' e').1, ?_, h1, ?_, by omega⟩
    ·rw [← he, hb.out, hb.todo, hfin, hnil]
     rfl
    ·have := hb.len
     rw [hnil] at h3
     simp only [lenF] at h3
     unfold Ex.llen at this
     omega
   rw [if_neg h4] at he
   by_cases hv : t.kind = 2 ∨ V.verb t.word = false
   ·rw [if_pos hv] at he; cases he
   rw [if_neg hv] at he
   obtain ⟨rest, out, todo, opn⟩ := s'
   cases hp : phraseP V true rest with
   | none => dsimp only at he; rw [hp] at he; cases he
   | some p =>
    obtain ⟨i, r'⟩ := p
    dsimp only at he
    rw [hp] at he
    dsimp only [Option.bind] at he
    cases rest with
    | nil => exact absurd (ht ▸ rfl) h4
    | cons t r =>
     obtain ⟨g1, g2, g3⟩ := phrase_facts hp
     refine (expr_sound f ⟨r', out, some i :: todo, opn⟩ l).1 (.dy i e' :: F') ⟨hb.out, ?_, hb.opn, ?_, ⟨g1, hb.fe, hb.nest, hb.fF⟩, ?_, fun x hx => hb.nums x (g3 x hx)⟩ he
     ·show some i :: todo = _
      rw [show todo = F'.map Fr.item from hb.todo]; rfl
     ·have := hb.nest
      simp only [opnF]
      omega
     ·have := hb.len
      simp only [lenF]
      dsimp only at this ⊢
      omega
end Go.Proofs.YtokghjnkfabgiaaGreatDoor

namespace Go.Proofs.YtokghjnkfabgiaaGreatDoor

structure Spl where
 V : Voc
 wtwo : Int → Str
 wone : Int → Str
 kind : Str → Int
 kinds : ∀ s, kind s = 1 ∨ kind s = 3
 two : ∀ s, V.two s ≠ 0 → V.two (wtwo (V.two s)) = V.two s
 one : ∀ s, V.one s ≠ 0 → V.one (wone (V.one s)) = V.one s
 verb47 : V.verb [47] = false
 verb92 : V.verb [92] = false
 verb46 : V.verb [46] = false
 verb40 : V.verb [40] = false
 verb41 : V.verb [41] = false
 nverb : ∀ s, V.name s = true → V.verb s = false
 two0 : V.two [] = 0
 one0 : V.one [] = 0
section
variable (L : Spl)
def Spl.tok (s : Str) : Tk := ⟨L.kind s, s, 0⟩
def numT (n : Int) : Tk := ⟨2, [], n⟩
def nameT (s : Str) : Tk := ⟨1, s, 0⟩
def Spl.vtok (i : Itm) : List Tk :=
 if i.how = 3 then [L.tok (L.wone i.fn)]
 else if i.how = 4 then [L.tok (L.wtwo i.fn)]
 else [L.tok (L.wtwo i.fn), signT (if i.how = 5 then 47 else if i.how = 6 then 92 else 46)]
def Spl.etok : Ex → List Tk
 | .num l => l.map numT
 | .nam s => [nameT s]
 | .mon i e => L.vtok i ++ Spl.etok e
 | .dy i a b => (if a.plain then Spl.etok a else signT 40 :: (Spl.etok a ++ [signT 41])) ++ (L.vtok i ++ Spl.etok b)
end
variable {L : Spl}
theorem vtok_len {i : Itm} : (L.vtok i).length = vlen i := by
 unfold Spl.vtok vlen
 by_cases h3 : i.how = 3
 ·rw [if_pos h3, if_pos (.inl h3)]; rfl
 rw [if_neg h3]
 by_cases h4 : i.how = 4
 ·rw [if_pos h4, if_pos (.inr h4)]; rfl
 rw [if_neg h4, if_neg (show ¬ (i.how = 3 ∨ i.how = 4) from fun h => h.elim h3 h4)]
 rfl
theorem etok_len : ∀ e : Ex, (L.etok e).length = e.len
 | .num l => by simp [Spl.etok, Ex.len]
 | .nam s => rfl
 | .mon i e => by rw [Spl.etok, List.length_append, vtok_len, etok_len e]; rfl
 | .dy i a b => by
  rw [Spl.etok, List.length_append, List.length_append, vtok_len, etok_len b]
  simp only [Ex.len]
  split
  ·rw [etok_len a]; omega
  ·simp only [List.length_cons, List.length_append, List.length_nil, etok_len a]; omega
theorem want_congr {V : Voc} {K K' : Bool → PS → Option (List Itm)} {t : Tk} {r : List Tk} {out : List Itm} {todo : List (Option Itm)} {k : Nat} (h : ∀ b (s : PS), s.rest.length ≤ r.length → K b s = K' b s) : wantQ V K t ⟨t :: r, out, todo, k⟩ = wantQ V K' t ⟨t :: r, out, todo, k⟩ := by
 unfold wantQ
 by_cases hv : t.kind ≠ 2 ∧ t.kind ≠ 4 ∧ V.verb t.word = true
 ·rw [if_pos hv, if_pos hv]
  cases hp : phraseP V false (t :: r) with
  | none => rfl
  | some p =>
   have := (phrase_facts (i := p.1) (r' := p.2) hp).2.1
   refine h _ _ ?_
   have h1 : 1 ≤ vlen p.1 := by unfold vlen; split <;> omega
   simp only [List.length_cons] at this
   dsimp only
   omega
 rw [if_neg hv, if_neg hv]
 by_cases hs : isSign t 40 = true
 ·rw [if_pos hs, if_pos hs, h _ _ (Nat.le_refl _)]
 rw [if_neg hs, if_neg hs]
 by_cases hk : t.kind = 2
 ·rw [if_pos hk, if_pos hk]
  refine h _ _ ?_
  have := (nums_facts (t :: r)).1
  have h1 : 1 ≤ (numsP (t :: r)).1.length := by rw [numsP, if_pos hk]; simp
  simp only [List.length_cons] at this
  dsimp only
  omega
 rw [if_neg hk, if_neg hk]
 by_cases hn : t.kind = 1 ∧ V.name t.word = true
 ·rw [if_pos hn, if_pos hn, h _ _ (Nat.le_refl _)]
 rw [if_neg hn, if_neg hn]
theorem beh_congr {V : Voc} {K K' : Bool → PS → Option (List Itm)} {s : PS} (h : ∀ b (s' : PS), s'.rest.length + 1 ≤ s.rest.length → K b s' = K' b s') : behQ V K (headT s.rest) s = behQ V K' (headT s.rest) s := by
 obtain ⟨rest, out, todo, k⟩ := s
 cases rest with
 | nil => rfl
 | cons t r =>
  show behQ V K t _ = behQ V K' t _
  unfold behQ
  by_cases h4 : t.kind = 4
  ·rw [if_pos h4, if_pos h4]
  rw [if_neg h4, if_neg h4]
  by_cases hv : t.kind = 2 ∨ V.verb t.word = false
  ·rw [if_pos hv, if_pos hv]
  rw [if_neg hv, if_neg hv]
  cases hp : phraseP V true (t :: r) with
  | none => rfl
  | some p =>
   have := (phrase_facts (i := p.1) (r' := p.2) hp).2.1
   refine h _ _ ?_
   have h1 : 1 ≤ vlen p.1 := by unfold vlen; split <;> omega
   simp only [List.length_cons] at this ⊢
   omega
theorem fuel_any {V : Voc} : ∀ (f g : Nat) (b : Bool) (s : PS), s.rest.length < f → s.rest.length < g → exprK V f b s = exprK V g b s
 | 0, g, b, s, h, _ => absurd h (Nat.not_lt_zero _)
 | f + 1, 0, b, s, _, h => absurd h (Nat.not_lt_zero _)
 | f + 1, g + 1, true, s, hf, hg => by
  rw [exprK, exprK]
  obtain ⟨rest, out, todo, k⟩ := s
  cases rest with
  | nil => simp [wantQ, headT, lineT, isSign]
  | cons t r =>
   simp only [List.length_cons] at hf hg
   exact want_congr fun b s h => fuel_any f g b s (by omega) (by omega)
 | f + 1, g + 1, false, s, hf, hg => by
  rw [exprK, exprK]
  have := close_rest s.rest s.out s.todo s.opn
  exact beh_congr fun b s' h => fuel_any f g b s' (by omega) (by omega)
theorem fuel_more {V : Voc} : ∀ (f : Nat) (b : Bool) (s : PS) (l : List Itm), exprK V f b s = some l → exprK V (f + 1) b s = some l
 | 0, b, s, l, h => by cases h
 | f + 1, true, s, l, h => by
  rw [exprK] at h ⊢
  unfold wantQ at h ⊢
  by_cases hv : (headT s.rest).kind ≠ 2 ∧ (headT s.rest).kind ≠ 4 ∧ V.verb (headT s.rest).word = true
  ·rw [if_pos hv] at h ⊢
   cases hp : phraseP V false s.rest with
   | none => rw [hp] at h; cases h
   | some p => rw [hp] at h; exact fuel_more f _ _ _ h
  rw [if_neg hv] at h ⊢
  by_cases hs : isSign (headT s.rest) 40 = true
  ·rw [if_pos hs] at h ⊢
   by_cases h32 : s.opn = 32
   ·rw [if_pos h32] at h; cases h
   rw [if_neg h32] at h ⊢
   exact fuel_more f _ _ _ h
  rw [if_neg hs] at h ⊢
  by_cases hk : (headT s.rest).kind = 2
  ·rw [if_pos hk] at h ⊢
   exact fuel_more f _ _ _ h
  rw [if_neg hk] at h ⊢
  by_cases hn : (headT s.rest).kind = 1 ∧ V.name (headT s.rest).word = true
  ·rw [if_pos hn] at h ⊢
   exact fuel_more f _ _ _ h
  rw [if_neg hn] at h
  cases h
 | f + 1, false, s, l, h => by
  rw [exprK] at h ⊢
  obtain ⟨s', hs'⟩ : ∃ s', closeP s.rest s.out s.todo s.opn = s' := ⟨_, rfl⟩
  rw [hs'] at h ⊢
  unfold behQ at h ⊢
  by_cases h4 : (headT s'.rest).kind = 4
  ·rw [if_pos h4] at h ⊢; exact h
  rw [if_neg h4] at h ⊢
  by_cases hv : (headT s'.rest).kind = 2 ∨ V.verb (headT s'.rest).word = false
  ·rw [if_pos hv] at h; cases h
  rw [if_neg hv] at h ⊢
  cases hp : phraseP V true s'.rest with
  | none => rw [hp] at h; cases h
  | some p => rw [hp] at h; exact fuel_more f _ _ _ h
theorem fuel_le {V : Voc} {f : Nat} {b : Bool} {s : PS} {l : List Itm} (h : exprK V f b s = some l) : ∀ k, exprK V (f + k) b s = some l
 | 0 => h
 | k + 1 => fuel_more _ _ _ _ (fuel_le h k)
def exprP (V : Voc) (r : List Tk) : Option (List Itm) := exprK V (r.length + 1) true ⟨r, [], [], 0⟩
theorem expr_of {V : Voc} {g : Nat} {r : List Tk} {l : List Itm} (h : exprK V g true ⟨r, [], [], 0⟩ = some l) : exprP V r = some l := by
 have h1 := fuel_le h (r.length + 1)
 unfold exprP
 rw [← h1]
 exact fuel_any _ _ _ _ (Nat.lt_succ_self _) (by show r.length < g + (r.length + 1); omega)
def spine : Ex → List Itm × List (Option Itm)
 | .mon i e => ((spine e).1, (spine e).2 ++ [some i])
 | .dy i a b => (a.post ++ (spine b).1, (spine b).2 ++ [some i])
 | e => (e.post, [])
theorem spine_finish : ∀ (e : Ex) (out : List Itm) (todo : List (Option Itm)), finishP (out ++ (spine e).1) ((spine e).2 ++ todo) = finishP (out ++ e.post) todo
 | .num l, out, todo => rfl
 | .nam s, out, todo => rfl
 | .mon i e, out, todo => by
  simp only [spine, List.append_assoc]
  rw [spine_finish e out, Ex.post]
  show finishP (out ++ e.post ++ [i]) todo = _
  rw [List.append_assoc]
 | .dy i a b, out, todo => by
  simp only [spine, List.append_assoc]
  rw [← List.append_assoc, spine_finish b (out ++ a.post), Ex.post]
  show finishP (out ++ a.post ++ b.post ++ [i]) todo = _
  simp only [List.append_assoc]
theorem finish_none (out : List Itm) (todo : List (Option Itm)) : finishP out (none :: todo) = (out, none :: todo) := rfl
theorem spine_plain {e : Ex} (h : e.plain = true) : spine e = (e.post, []) := by cases e <;> first | rfl | cases h
end Go.Proofs.YtokghjnkfabgiaaGreatDoor

namespace Go.Proofs.YtokghjnkfabgiaaGreatDoor

variable {L : Spl}
def NoOp (t : Tk) : Prop := ¬ (t.kind = 3 ∧ (t.word = [47] ∨ t.word = [92] ∨ t.word = [46]))
theorem kind_verb {s : Str} : (L.tok s).kind ≠ 2 ∧ (L.tok s).kind ≠ 4 := by
 rcases L.kinds s with h | h <;> (unfold Spl.tok; dsimp only; rw [h]; decide)
theorem verb_two {s : Str} (h : L.V.two s ≠ 0) : L.V.verb s = true := by unfold Voc.verb; simp [h]
theorem verb_one {s : Str} (h : L.V.one s ≠ 0) : L.V.verb s = true := by unfold Voc.verb; simp [h]
theorem verb_noop {s : Str} (h : L.V.verb s = true) : NoOp (L.tok s) := fun ⟨_, h2⟩ => by
 rcases h2 with e | e | e
 ·have := L.verb47; rw [← e] at this; exact absurd (h.symm.trans this) (by decide)
 ·have := L.verb92; rw [← e] at this; exact absurd (h.symm.trans this) (by decide)
 ·have := L.verb46; rw [← e] at this; exact absurd (h.symm.trans this) (by decide)
theorem vtok_head {two : Bool} {i : Itm} (h : VI L.V two i) : ∃ s q, L.vtok i = L.tok s :: q ∧ L.V.verb s = true := by
 obtain ⟨-, -, s, h⟩ := h
 unfold Spl.vtok
 rcases h with ⟨h1, -, h3, h4⟩ | ⟨h1, -, h3, h4⟩ | ⟨h1, -, h3, h4, -⟩ | ⟨h1, -, h3, h4, -⟩
 ·rw [if_pos h1]
  exact ⟨_, _, rfl, verb_one (by rw [← h3, L.one s (by rw [h3]; exact h4), h3]; exact h4)⟩
 ·rw [if_neg (by omega), if_pos h1]
  exact ⟨_, _, rfl, verb_two (by rw [← h3, L.two s (by rw [h3]; exact h4), h3]; exact h4)⟩
 ·rw [if_neg (by omega), if_neg (by omega)]
  exact ⟨_, _, rfl, verb_two (by rw [← h3, L.two s (by rw [h3]; exact h4), h3]; exact h4)⟩
 ·rw [if_neg (by omega), if_neg (by omega)]
  exact ⟨_, _, rfl, verb_two (by rw [← h3, L.two s (by rw [h3]; exact h4), h3]; exact h4)⟩
theorem ex_head {P : Int → Prop} {e : Ex} (h : e.fine L.V P) : ∃ t q, L.etok e = t :: q ∧ NoOp t := by
 cases e with
 | num l =>
  cases l with
  | nil => exact absurd rfl h.1
  | cons n l => exact ⟨numT n, l.map numT, rfl, fun ⟨h, _⟩ => absurd h (show ¬ (2 : Int) = 3 by decide)⟩
 | nam s => exact ⟨nameT s, [], rfl, fun ⟨h, _⟩ => absurd h (show ¬ (1 : Int) = 3 by decide)⟩
 | mon i e =>
  obtain ⟨s, q, h1, h2⟩ := vtok_head h.1
  exact ⟨_, q ++ L.etok e, by rw [Spl.etok, h1]; rfl, verb_noop h2⟩
 | dy i a b =>
  have ih := ex_head (e := a) h.2.1
  obtain ⟨t, q, h1, h2⟩ := ih
  by_cases hp : a.plain = true
  ·exact ⟨t, _, by rw [Spl.etok, if_pos hp, h1]; rfl, h2⟩
  ·exact ⟨signT 40, _, by rw [Spl.etok, if_neg hp]; rfl, fun ⟨_, h⟩ => absurd h (by decide)⟩
theorem phrase_read {two : Bool} {i : Itm} (h : VI L.V two i) {t : Tk} {r : List Tk} (ht : NoOp t) : phraseP L.V two (L.vtok i ++ t :: r) = some (i, t :: r) := by
 obtain ⟨hn, hl, s, h⟩ := h
 obtain ⟨how, fn, name, nums⟩ := i
 dsimp only at hn hl h
 subst hn hl
 rcases h with ⟨h1, h2, h3, h4⟩ | ⟨h1, h2, h3, h4⟩ | ⟨h1, h2, h3, h4, h5⟩ | ⟨h1, h2, h3, h4, h5⟩
 ·subst h1 h2
  have hw : L.V.one (L.wone fn) = fn := by rw [← h3]; exact L.one s (by rw [h3]; exact h4)
  show phraseQ L.V false (L.tok (L.wone fn)) t (t :: r) r = _
  unfold phraseQ
  rw [if_neg ht]
  simp [Spl.tok, hw, h4]
 ·subst h1 h2
  have hw : L.V.two (L.wtwo fn) = fn := by rw [← h3]; exact L.two s (by rw [h3]; exact h4)
  show phraseQ L.V true (L.tok (L.wtwo fn)) t (t :: r) r = _
  unfold phraseQ
  rw [if_neg ht]
  simp [Spl.tok, hw, h4]
 ·subst h2
  have hw : L.V.two (L.wtwo fn) = fn := by rw [← h3]; exact L.two s (by rw [h3]; exact h4)
  rcases h1 with rfl | rfl
  ·show phraseQ L.V false (L.tok (L.wtwo fn)) (signT 47) (signT 47 :: t :: r) (t :: r) = _
   unfold phraseQ
   rw [if_pos ⟨rfl, .inl rfl⟩]
   simp only [Spl.tok, hw]
   rw [if_neg (by rintro (h | h); omega; exact absurd h (by decide)), if_neg h4]
   rfl
  ·show phraseQ L.V false (L.tok (L.wtwo fn)) (signT 92) (signT 92 :: t :: r) (t :: r) = _
   unfold phraseQ
   rw [if_pos ⟨rfl, .inr (.inl rfl)⟩]
   simp only [Spl.tok, hw]
   rw [if_neg (by rintro (h | h); omega; exact absurd h (by decide)), if_neg h4]
   rfl
 ·subst h1 h2
  have hw : L.V.two (L.wtwo fn) = fn := by rw [← h3]; exact L.two s (by rw [h3]; exact h4)
  show phraseQ L.V true (L.tok (L.wtwo fn)) (signT 46) (signT 46 :: t :: r) (t :: r) = _
  unfold phraseQ
  rw [if_pos ⟨rfl, .inr (.inr rfl)⟩]
  simp only [Spl.tok, hw]
  rw [if_neg (by rintro (h | h); omega; exact absurd h (by decide)), if_neg h4]
  rfl
theorem nums_read {r : List Tk} (hr : (headT r).kind ≠ 2) : ∀ l : List Int, numsP (l.map numT ++ r) = (l, r)
 | [] => by
  cases r with
  | nil => rfl
  | cons t r => show numsP (t :: r) = _; rw [numsP, if_neg (show ¬ t.kind = 2 from hr)]
 | n :: l => by
  show numsP (numT n :: (l.map numT ++ r)) = _
  rw [numsP, if_pos (show (numT n).kind = 2 from rfl), nums_read hr l]
  rfl
theorem close_no {r : List Tk} {out : List Itm} {todo : List (Option Itm)} {k : Nat} (h : isSign (headT r) 41 = false) : closeP r out todo k = ⟨r, out, todo, k⟩ := by
 cases r with
 | nil => cases k <;> rfl
 | cons t r =>
  cases k with
  | zero => rfl
  | succ k =>
   rw [closeP, if_neg (by rw [show isSign t 41 = false from h]; decide)]
theorem sign_no {s : Str} (h : L.V.verb s = true) (b : UInt8) (hb : L.V.verb [b] = false) : isSign (L.tok s) b = false := by
 unfold isSign
 have : ¬ s = [b] := fun e => by rw [e] at h; rw [h] at hb; cases hb
 simp [Spl.tok, this]
theorem read_ex {P : Int → Prop} : ∀ (e : Ex) (r : List Tk) (out : List Itm) (todo : List (Option Itm)) (k f : Nat) (l : List Itm), e.fine L.V P → e.nest + k ≤ 32 → (headT r).kind ≠ 2 →
  exprK L.V f false ⟨r, out ++ (spine e).1, (spine e).2 ++ todo, k⟩ = some l → ∃ g, exprK L.V g true ⟨L.etok e ++ r, out, todo, k⟩ = some l
 | .num ns, r, out, todo, k, f, l, he, hn, hr, h => by
  refine ⟨f + 1, ?_⟩
  obtain ⟨n, ns, rfl⟩ : ∃ n ns', ns = n :: ns' := by
   cases ns with
   | nil => exact absurd rfl he.1
   | cons n ns => exact ⟨n, ns, rfl⟩
  rw [exprK]
  show wantQ L.V _ (numT n) _ = _
  unfold wantQ
  rw [if_neg (fun h => h.1 rfl), if_neg (show ¬ isSign (numT n) 40 = true by simp [isSign, numT]), if_pos (show (numT n).kind = 2 from rfl)]
  dsimp only
  rw [Spl.etok, nums_read hr (n :: ns)]
  exact h
 | .nam s, r, out, todo, k, f, l, he, hn, hr, h => by
  refine ⟨f + 1, ?_⟩
  rw [exprK]
  show wantQ L.V _ (nameT s) _ = _
  unfold wantQ
  have hv : L.V.verb s = false := L.nverb s he
  rw [if_neg (fun h => by have := h.2.2; rw [show (nameT s).word = s from rfl, hv] at this; cases this), if_neg (by simp [isSign, nameT]), if_neg (show ¬ (nameT s).kind = 2 from (show ¬ (1 : Int) = 2 by decide)), if_pos (show (nameT s).kind = 1 ∧ L.V.name (nameT s).word = true from ⟨rfl, he⟩)]
  exact h
 | .mon i e, r, out, todo, k, f, l, he, hn, hr, h => by
  obtain ⟨t, q, hq, hno⟩ := ex_head he.2
  obtain ⟨s, q2, hs, hv⟩ := vtok_head he.1
  have h2 : exprK L.V f false ⟨r, out ++ (spine e).1, (spine e).2 ++ (some i :: todo), k⟩ = some l := by
   have := h
   simp only [spine, List.append_assoc] at this
   exact this
  obtain ⟨g, hg⟩ := read_ex e r out (some i :: todo) k f l he.2 hn hr h2
  refine ⟨g + 1, ?_⟩
  rw [exprK, Spl.etok, List.append_assoc]
  have hhd : headT (L.vtok i ++ (L.etok e ++ r)) = L.tok s := by rw [hs]; rfl
  dsimp only
  rw [hhd]
  unfold wantQ
  rw [if_pos ⟨(kind_verb).1, (kind_verb).2, hv⟩]
  dsimp only
  rw [hq]
  show (phraseP L.V false (L.vtok i ++ t :: (q ++ r))).bind _ = _
  rw [phrase_read he.1 hno]
  show exprK L.V g true ⟨t :: (q ++ r), out, some i :: todo, k⟩ = some l
  rw [hq] at hg
  exact hg
 | .dy i a b, r, out, todo, k, f, l, he, hn, hr, h => by
  obtain ⟨hvi, hfa, hfb⟩ := he
  obtain ⟨t, q, hq, hno⟩ := ex_head hfb
  obtain ⟨s, q2, hs, hv⟩ := vtok_head hvi
  simp only [Ex.nest] at hn
  have h2 : exprK L.V f false ⟨r, (out ++ a.post) ++ (spine b).1, (spine b).2 ++ (some i :: todo), k⟩ = some l := by
   have := h
   simp only [spine, List.append_assoc] at this ⊢
   exact this
  obtain ⟨g, hg⟩ := read_ex b r (out ++ a.post) (some i :: todo) k f l hfb (by omega) hr h2
  -- behind the left operand
  have hbe : exprK L.V (g + 1) false ⟨L.vtok i ++ (L.etok b ++ r), out ++ a.post, todo, k⟩ = some l := by
   have hhd : headT (L.vtok i ++ (L.etok b ++ r)) = L.tok s := by rw [hs]; rfl
   rw [exprK]
   dsimp only
   rw [close_no (by rw [hhd]; exact sign_no hv 41 L.verb41)]
   dsimp only
   rw [hhd]
   unfold behQ
   rw [if_neg (kind_verb).2, if_neg (by rintro (h | h); exact (kind_verb).1 h; rw [show (L.tok s).word = s from rfl, hv] at h; cases h)]
   dsimp only
   rw [hq]
   show (phraseP L.V true (L.vtok i ++ t :: (q ++ r))).bind _ = _
   rw [phrase_read hvi hno]
   show exprK L.V g true ⟨t :: (q ++ r), out ++ a.post, some i :: todo, k⟩ = some l
   rw [hq] at hg
   exact hg
  have hk2 : (headT (L.vtok i ++ (L.etok b ++ r))).kind ≠ 2 := by rw [hs]; exact (kind_verb).1
  by_cases hp : a.plain = true
  ·rw [Spl.etok, if_pos hp, List.append_assoc, List.append_assoc]
   refine read_ex a _ out todo k (g + 1) l hfa (by rw [if_pos hp] at hn; omega) hk2 ?_
   rw [spine_plain hp]
   exact hbe
  ·rw [if_neg hp] at hn
   have hk : k + 1 ≤ 32 := by omega
   have h3 : exprK L.V (g + 1) false ⟨signT 41 :: (L.vtok i ++ (L.etok b ++ r)), out ++ (spine a).1, (spine a).2 ++ (none :: todo), k + 1⟩ = some l := by
    rw [exprK] at hbe ⊢
    dsimp only at hbe ⊢
    have hcl : closeP (signT 41 :: (L.vtok i ++ (L.etok b ++ r))) (out ++ (spine a).1) ((spine a).2 ++ (none :: todo)) (k + 1) = closeP (L.vtok i ++ (L.etok b ++ r)) (out ++ a.post) todo k := by
     rw [closeP, if_pos (by decide), spine_finish a out (none :: todo), finish_none]
     rfl
    rw [hcl]
    exact hbe
   obtain ⟨g2, hg2⟩ := read_ex a (signT 41 :: (L.vtok i ++ (L.etok b ++ r))) out (none :: todo) (k + 1) (g + 1) l hfa (by omega) (show ¬ (3 : Int) = 2 by decide) h3
   refine ⟨g2 + 1, ?_⟩
   rw [exprK, Spl.etok, if_neg hp]
   show wantQ L.V _ (signT 40) _ = _
   unfold wantQ
   rw [if_neg (fun h => by have := h.2.2; rw [show (signT 40).word = [40] from rfl, L.verb40] at this; cases this), if_pos (by decide)]
   dsimp only
   rw [if_neg (by omega)]
   show exprK L.V g2 true ⟨(L.etok a ++ [signT 41]) ++ (L.vtok i ++ L.etok b) ++ r, out, none :: todo, k + 1⟩ = some l
   have : (L.etok a ++ [signT 41]) ++ (L.vtok i ++ L.etok b) ++ r = L.etok a ++ signT 41 :: (L.vtok i ++ (L.etok b ++ r)) := by simp
   rw [this]
   exact hg2
theorem expr_read {P : Int → Prop} {e : Ex} (he : e.fine L.V P) (hn : e.nest ≤ 32) : exprP L.V (L.etok e) = some e.post := by
 have h0 : exprK L.V 1 false ⟨[], [] ++ (spine e).1, (spine e).2 ++ [], 0⟩ = some e.post := by
  rw [exprK]
  show behQ L.V _ lineT ⟨[], [] ++ (spine e).1, (spine e).2 ++ [], 0⟩ = _
  unfold behQ
  rw [if_pos (show lineT.kind = 4 from rfl), if_neg (Nat.lt_irrefl 0)]
  dsimp only
  rw [spine_finish e [] []]
  rfl
 obtain ⟨g, hg⟩ := read_ex e [] [] [] 0 1 e.post he hn (show ¬ (4 : Int) = 2 by decide) h0
 rw [List.append_nil] at hg
 exact expr_of hg
theorem expr_tree {V : Voc} {P : Int → Prop} {r : List Tk} {l : List Itm} (h : exprP V r = some l) (hn : ∀ t ∈ r, t.kind = 2 → P t.n) : ∃ e : Ex, l = e.post ∧ e.fine V P ∧ e.len ≤ r.length ∧ e.nest ≤ 32 :=
 (expr_sound (N := r.length) _ _ _).1 [] ⟨rfl, rfl, rfl, by decide, trivial, by simp [lenF], hn⟩ h
end Go.Proofs.YtokghjnkfabgiaaGreatDoor

namespace Go.Proofs.YtokghjnkfabgiaaGreatDoor
open Go.Lib

def isBlank (b : UInt8) : Bool := b == 32 || b == 9
def isLetter (b : UInt8) : Bool := (decide (97 ≤ b.toNat) && decide (b.toNat ≤ 122)) || (decide (65 ≤ b.toNat) && decide (b.toNat ≤ 90))
def isDigit (b : UInt8) : Bool := decide (48 ≤ b.toNat) && decide (b.toNat ≤ 57)
def isNameB (b : UInt8) : Bool := isLetter b || isDigit b
def spanN (p : UInt8 → Bool) : Str → Nat
 | [] => 0
 | b :: r => if p b = true then spanN p r + 1 else 0
def isSignB (b : UInt8) : Bool := [43, 45, 42, 37, 124, 61, 126, 60, 62, 47, 92, 46, 58, 40, 41].contains b
def decV (l : Str) : Nat := (decFrom 0 l).getD 0
def in64B (v : Int) : Bool := decide (-9223372036854775808 ≤ v) && decide (v ≤ 9223372036854775807)
def signQ (b : UInt8) (r : Str) : Option (Tk × Nat) :=
 if (b = 60 ∨ b = 62) ∧ r.head? = some 61 then some (⟨3, [b, 61], 0⟩, 2) else if isSignB b = true then some (⟨3, [b], 0⟩, 1) else none
def tokQ : Str → Option (Tk × Nat)
 | [] => none
 | b :: r =>
  if b = 10 then some (lineT, 1)
  else if isLetter b = true then (if 16 < spanN isNameB (b :: r) then none else some (⟨1, (b :: r).take (spanN isNameB (b :: r)), 0⟩, spanN isNameB (b :: r)))
  else if b = 95 then
   if spanN isDigit r = 0 then signQ b r
   else if in64B (-(decV (r.take (spanN isDigit r)) : Int)) = true then some (⟨2, [], -(decV (r.take (spanN isDigit r)) : Int)⟩, spanN isDigit r + 1) else none
  else if spanN isDigit (b :: r) = 0 then signQ b r
  else if in64B (decV ((b :: r).take (spanN isDigit (b :: r))) : Int) = true then some (⟨2, [], (decV ((b :: r).take (spanN isDigit (b :: r))) : Int)⟩, spanN isDigit (b :: r)) else none
def lexK : Nat → Str → Nat → Option (List (Tk × Nat))
 | 0, _, _ => some []
 | _ + 1, [], _ => some []
 | f + 1, b :: r, a =>
  if isBlank b = true then lexK f r (a + 1)
  else if b = 35 then lexK f ((b :: r).drop (spanN (fun c => c != 10) (b :: r))) (a + spanN (fun c => c != 10) (b :: r))
  else (tokQ (b :: r)).bind fun p => (lexK f ((b :: r).drop p.2) (a + p.2)).map fun l => (p.1, a) :: l
def lexF (s : Str) (a : Nat) : Option (List (Tk × Nat)) := lexK s.length s a
def lexP (s : Str) : Option (List (Tk × Nat)) := if 65536 < s.length then none else lexF s 0
theorem span_le (p : UInt8 → Bool) : ∀ s : Str, spanN p s ≤ s.length
 | [] => Nat.le_refl _
 | b :: r => by rw [spanN]; have := span_le p r; split <;> simp <;> omega
theorem span_all {p : UInt8 → Bool} : ∀ (w r : Str), (∀ b ∈ w, p b = true) → (∀ b, r.head? = some b → p b = false) → spanN p (w ++ r) = w.length
 | [], [], _, _ => rfl
 | [], b :: r, _, h => by
  show spanN p (b :: r) = 0
  rw [spanN, if_neg (by rw [h b rfl]; decide)]
 | b :: w, r, hw, h => by
  show spanN p (b :: (w ++ r)) = _
  rw [spanN, if_pos (hw b List.mem_cons_self), span_all w r (fun c hc => hw c (List.mem_cons_of_mem _ hc)) h]
  rfl
theorem span_take {p : UInt8 → Bool} : ∀ (s : Str), ∀ b ∈ s.take (spanN p s), p b = true
 | [], b, h => by cases h
 | c :: r, b, h => by
  rw [spanN] at h
  split at h
  ·rename_i hc
   rcases List.mem_cons.1 (by simpa using h) with e | e
   ·rw [e]; exact hc
   ·exact span_take r b e
  ·cases h
theorem dec_append : ∀ (l m : Str) (acc : Nat), decFrom acc (l ++ m) = (decFrom acc l).bind fun n => decFrom n m
 | [], m, acc => rfl
 | b :: l, m, acc => by
  show decFrom acc (b :: (l ++ m)) = _
  rw [decFrom, decFrom]
  cases digitVal b with
  | none => rfl
  | some d => exact dec_append l m _
theorem digit_ofNat {d : Nat} (h : d < 10) : digitVal (UInt8.ofNat (48 + d)) = some d ∧ isDigit (UInt8.ofNat (48 + d)) = true := by
 have hn : (UInt8.ofNat (48 + d)).toNat = 48 + d := by rw [UInt8.toNat_ofNat']; omega
 unfold digitVal isDigit
 rw [hn]
 refine ⟨?_, ?_⟩
 ·rw [if_pos (by omega)]; congr 1; omega
 ·simp; omega
theorem dec_digits (u : Nat) : decFrom 0 (decDigits u) = some u ∧ (∀ b ∈ decDigits u, isDigit b = true) ∧ decDigits u ≠ [] := by
 induction u using Nat.strongRecOn with
 | _ u ih =>
  by_cases h : u < 10
  ·rw [decDigits, dif_pos h]
   obtain ⟨h1, h2⟩ := digit_ofNat h
   refine ⟨?_, fun b hb => by cases List.mem_singleton.1 hb; exact h2, by simp⟩
   rw [decFrom, h1]
   show some (0 * 10 + u) = _
   simp
  ·rw [decDigits, dif_neg h]
   obtain ⟨i1, i2, i3⟩ := ih (u / 10) (by omega)
   obtain ⟨h1, h2⟩ := digit_ofNat (show u % 10 < 10 by omega)
   refine ⟨?_, fun b hb => ?_, by simp⟩
   ·rw [dec_append, i1]
    show decFrom (u / 10) [UInt8.ofNat (48 + u % 10)] = some u
    rw [decFrom, h1]
    show some (u / 10 * 10 + u % 10) = some u
    congr 1
    omega
   ·rcases List.mem_append.1 hb with hb | hb
    ·exact i2 b hb
    ·cases List.mem_singleton.1 hb; exact h2
theorem dec_val (u : Nat) : decV (decDigits u) = u := by unfold decV; rw [(dec_digits u).1]; rfl
def numStr (n : Int) : Str := if n < 0 then 95 :: decDigits n.natAbs else decDigits n.toNat
def spellT (t : Tk) : Str := if t.kind = 2 then numStr t.n else if t.kind = 4 then [10] else t.word
def RightT (t : Tk) : Prop :=
 (t.kind = 1 ∧ t.n = 0 ∧ ∃ b q, t.word = b :: q ∧ isLetter b = true ∧ (∀ c ∈ t.word, isNameB c = true) ∧ t.word.length ≤ 16) ∨
 (t.kind = 2 ∧ t.word = [] ∧ in64B t.n = true) ∨
 (t.kind = 3 ∧ t.n = 0 ∧ ((∃ b, t.word = [b] ∧ isSignB b = true) ∨ t.word = [60, 61] ∨ t.word = [62, 61])) ∨
 t = lineT
def Stop (t : Tk) (r : Str) : Prop := ∀ b, r.head? = some b → (t.kind = 1 → isNameB b = false) ∧ (t.kind = 2 → isDigit b = false) ∧ ((t.word = [60] ∨ t.word = [62]) → b ≠ 61)
theorem letter_facts {b : UInt8} (h : isLetter b = true) : b ≠ 10 ∧ isBlank b = false ∧ b ≠ 35 ∧ isNameB b = true := by
 unfold isLetter at h
 simp only [Bool.or_eq_true, Bool.and_eq_true, decide_eq_true_eq] at h
 have hn : ∀ n : Nat, n < 65 → b ≠ UInt8.ofNat n := fun n hn e => by
  rw [e, UInt8.toNat_ofNat'] at h
  omega
 refine ⟨hn 10 (by decide), ?_, hn 35 (by decide), ?_⟩
 ·unfold isBlank
  have h1 : b ≠ 32 := hn 32 (by decide)
  have h2 : b ≠ 9 := hn 9 (by decide)
  simp [h1, h2]
 ·unfold isNameB isLetter
  simp only [Bool.or_eq_true, Bool.and_eq_true, decide_eq_true_eq]
  exact .inl h
theorem digit_facts {b : UInt8} (h : isDigit b = true) : b ≠ 10 ∧ isBlank b = false ∧ b ≠ 35 ∧ isLetter b = false ∧ b ≠ 95 := by
 unfold isDigit at h
 simp only [Bool.and_eq_true, decide_eq_true_eq] at h
 have hn : ∀ n : Nat, (n < 48 ∨ 57 < n) → n < 256 → b ≠ UInt8.ofNat n := fun n hn h2 e => by
  rw [e, UInt8.toNat_ofNat'] at h
  omega
 refine ⟨hn 10 (by decide) (by decide), ?_, hn 35 (by decide) (by decide), ?_, hn 95 (by decide) (by decide)⟩
 ·unfold isBlank
  have h1 : b ≠ 32 := hn 32 (by decide) (by decide)
  have h2 : b ≠ 9 := hn 9 (by decide) (by decide)
  simp [h1, h2]
 ·unfold isLetter
  simp
  omega
theorem take_len {w r : Str} : (w ++ r).take w.length = w := by simp
theorem sign_facts {b : UInt8} (h : isSignB b = true) : b ≠ 10 ∧ isBlank b = false ∧ b ≠ 35 ∧ isLetter b = false ∧ isDigit b = false ∧ b ≠ 95 := by
 unfold isSignB at h
 have : ∀ b ∈ ([43, 45, 42, 37, 124, 61, 126, 60, 62, 47, 92, 46, 58, 40, 41] : Str), b ≠ 10 ∧ isBlank b = false ∧ b ≠ 35 ∧ isLetter b = false ∧ isDigit b = false ∧ b ≠ 95 := by decide
 exact this b (by simpa using h)
theorem head_app {w r : Str} {b : UInt8} {q : Str} (h : w = b :: q) : w ++ r = b :: (q ++ r) := by rw [h]; rfl
theorem tok_spell {t : Tk} (h : RightT t) {r : Str} (hs : Stop t r) : tokQ (spellT t ++ r) = some (t, (spellT t).length) := by
 obtain ⟨kind, word, n⟩ := t
 rcases h with ⟨hk, hn, b, q, hw, hb, hall, hlen⟩ | ⟨hk, hw, hin⟩ | ⟨hk, hn, hw⟩ | h
 ·dsimp only at hk hn hw hall hlen
  subst hk hn
  have hsp : spellT ⟨1, word, 0⟩ = word := rfl
  rw [hsp, head_app hw]
  obtain ⟨h10, -, -, -⟩ := letter_facts hb
  have hspan : spanN isNameB (b :: (q ++ r)) = word.length := by
   rw [← head_app hw]
   exact span_all word r hall (fun c hc => (hs c hc).1 rfl)
  rw [tokQ, if_neg h10, if_pos hb, hspan, if_neg (by omega), ← head_app hw, take_len]
 ·dsimp only at hk hw hin
  subst hk hw
  have hsp : spellT ⟨2, [], n⟩ = numStr n := rfl
  rw [hsp]
  have hst : ∀ c, r.head? = some c → isDigit c = false := fun c hc => (hs c hc).2.1 rfl
  unfold numStr
  by_cases hneg : n < 0
  ·rw [if_pos hneg]
   obtain ⟨d1, d2, d3⟩ := dec_digits n.natAbs
   have hspan : spanN isDigit (decDigits n.natAbs ++ r) = (decDigits n.natAbs).length := span_all _ r d2 hst
   have hpos : (decDigits n.natAbs).length ≠ 0 := by simp [d3]
   show tokQ (95 :: (decDigits n.natAbs ++ r)) = _
   rw [tokQ, if_neg (by decide), if_neg (by decide), if_pos rfl, hspan, if_neg hpos, take_len, dec_val]
   have hv : -(n.natAbs : Int) = n := by omega
   rw [hv, if_pos hin]
   rfl
  ·rw [if_neg hneg]
   obtain ⟨d1, d2, d3⟩ := dec_digits n.toNat
   obtain ⟨b, q, hb⟩ : ∃ b q, decDigits n.toNat = b :: q := by
    cases hx : decDigits n.toNat with
    | nil => exact absurd hx d3
    | cons b q => exact ⟨b, q, rfl⟩
   have hspan : spanN isDigit (decDigits n.toNat ++ r) = (decDigits n.toNat).length := span_all _ r d2 hst
   have hpos : (decDigits n.toNat).length ≠ 0 := by simp [d3]
   obtain ⟨f1, -, -, f4, f5⟩ := digit_facts (d2 b (by rw [hb]; exact List.mem_cons_self))
   rw [head_app hb, tokQ, if_neg f1, if_neg (by rw [f4]; decide), if_neg f5, ← head_app hb, hspan, if_neg hpos, take_len, dec_val]
   have hv : (n.toNat : Int) = n := by omega
   rw [hv, if_pos hin]
 ·dsimp only at hk hn hw
  subst hk hn
  have hsp : spellT ⟨3, word, 0⟩ = word := rfl
  rw [hsp]
  have hsg : ∀ {b : UInt8} {q : Str}, isSignB b = true → tokQ (b :: q) = signQ b q := fun {b q} h => by
   obtain ⟨f1, -, -, f4, f5, f6⟩ := sign_facts h
   have : spanN isDigit (b :: q) = 0 := by rw [spanN, if_neg (by rw [f5]; decide)]
   rw [tokQ, if_neg f1, if_neg (by rw [f4]; decide), if_neg f6, this, if_pos rfl]
  rcases hw with ⟨b, hw, hb⟩ | hw | hw
  ·subst hw
   show tokQ (b :: r) = _
   rw [hsg hb]
   unfold signQ
   rw [if_neg, if_pos hb]
   ·rfl
   ·rintro ⟨h1, h2⟩
    refine (hs 61 h2).2.2 ?_ rfl
    rcases h1 with e | e
    ·exact .inl (by rw [e])
    ·exact .inr (by rw [e])
  ·subst hw
   show tokQ (60 :: 61 :: r) = _
   rw [hsg (by decide)]
   rfl
  ·subst hw
   show tokQ (62 :: 61 :: r) = _
   rw [hsg (by decide)]
   rfl
 ·rw [h]
  rfl
end Go.Proofs.YtokghjnkfabgiaaGreatDoor

namespace Go.Proofs.YtokghjnkfabgiaaGreatDoor
open Go.Lib

theorem sign_right {b : UInt8} {r : Str} {t : Tk} {n : Nat} (h : signQ b r = some (t, n)) : RightT t ∧ 1 ≤ n ∧ n ≤ (b :: r).length := by
 unfold signQ at h
 by_cases h1 : (b = 60 ∨ b = 62) ∧ r.head? = some 61
 ·rw [if_pos h1] at h
  simp only [Option.some.injEq, Prod.mk.injEq] at h
  obtain ⟨rfl, rfl⟩ := h
  refine ⟨.inr (.inr (.inl ⟨rfl, rfl, ?_⟩)), by decide, ?_⟩
  ·rcases h1.1 with e | e
   ·subst e; exact .inr (.inl rfl)
   ·subst e; exact .inr (.inr rfl)
  ·cases r with
   | nil => cases h1.2
   | cons c r => simp
 ·rw [if_neg h1] at h
  by_cases h2 : isSignB b = true
  ·rw [if_pos h2] at h
   simp only [Option.some.injEq, Prod.mk.injEq] at h
   obtain ⟨rfl, rfl⟩ := h
   exact ⟨.inr (.inr (.inl ⟨rfl, rfl, .inl ⟨b, rfl, h2⟩⟩)), by decide, by simp⟩
  ·rw [if_neg h2] at h; cases h
theorem tok_right {s : Str} {t : Tk} {n : Nat} (h : tokQ s = some (t, n)) : RightT t ∧ 1 ≤ n ∧ n ≤ s.length := by
 cases s with
 | nil => cases h
 | cons b r =>
  rw [tokQ] at h
  by_cases h10 : b = 10
  ·rw [if_pos h10] at h
   simp only [Option.some.injEq, Prod.mk.injEq] at h
   obtain ⟨rfl, rfl⟩ := h
   exact ⟨.inr (.inr (.inr rfl)), by decide, by simp⟩
  rw [if_neg h10] at h
  by_cases hl : isLetter b = true
  ·rw [if_pos hl] at h
   by_cases h16 : 16 < spanN isNameB (b :: r)
   ·rw [if_pos h16] at h; cases h
   rw [if_neg h16] at h
   simp only [Option.some.injEq, Prod.mk.injEq] at h
   obtain ⟨rfl, rfl⟩ := h
   have hle := span_le isNameB (b :: r)
   have h1 : spanN isNameB (b :: r) = spanN isNameB r + 1 := by rw [spanN, if_pos (letter_facts hl).2.2.2]
   refine ⟨.inl ⟨rfl, rfl, b, r.take (spanN isNameB r), by rw [h1]; rfl, hl, fun c hc => span_take _ c hc, ?_⟩, by omega, hle⟩
   show ((b :: r).take _).length ≤ 16
   rw [List.length_take]
   omega
  rw [if_neg hl] at h
  by_cases h95 : b = 95
  ·rw [if_pos h95] at h
   by_cases h0 : spanN isDigit r = 0
   ·rw [if_pos h0] at h; exact sign_right h
   rw [if_neg h0] at h
   split at h
   ·rename_i hin
    simp only [Option.some.injEq, Prod.mk.injEq] at h
    obtain ⟨rfl, rfl⟩ := h
    have hle := span_le isDigit r
    exact ⟨.inr (.inl ⟨rfl, rfl, hin⟩), by omega, by simp; omega⟩
   ·cases h
  rw [if_neg h95] at h
  by_cases h0 : spanN isDigit (b :: r) = 0
  ·rw [if_pos h0] at h; exact sign_right h
  rw [if_neg h0] at h
  split at h
  ·rename_i hin
   simp only [Option.some.injEq, Prod.mk.injEq] at h
   obtain ⟨rfl, rfl⟩ := h
   have hle := span_le isDigit (b :: r)
   exact ⟨.inr (.inl ⟨rfl, rfl, hin⟩), by omega, hle⟩
  ·cases h
theorem lex_right : ∀ (f : Nat) (s : Str) (a : Nat) (l : List (Tk × Nat)), lexK f s a = some l → ∀ p ∈ l, RightT p.1
 | 0, s, a, l, h => by cases h; exact fun p hp => by cases hp
 | f + 1, [], a, l, h => by cases h; exact fun p hp => by cases hp
 | f + 1, b :: r, a, l, h => by
  rw [lexK] at h
  by_cases hb : isBlank b = true
  ·rw [if_pos hb] at h; exact lex_right f _ _ _ h
  rw [if_neg hb] at h
  by_cases h35 : b = 35
  ·rw [if_pos h35] at h; exact lex_right f _ _ _ h
  rw [if_neg h35] at h
  cases ht : tokQ (b :: r) with
  | none => rw [ht] at h; cases h
  | some p =>
   rw [ht] at h
   dsimp only [Option.bind] at h
   cases hl : lexK f ((b :: r).drop p.2) (a + p.2) with
   | none => rw [hl] at h; cases h
   | some l2 =>
    rw [hl] at h
    cases h
    intro x hx
    rcases List.mem_cons.1 hx with e | e
    ·subst e; exact (tok_right (t := p.1) (n := p.2) ht).1
    ·exact lex_right f _ _ _ hl x e
theorem lex_fuel : ∀ (f g : Nat) (s : Str) (a : Nat), s.length ≤ f → s.length ≤ g → lexK f s a = lexK g s a
 | 0, 0, s, a, _, _ => rfl
 | 0, g + 1, [], a, _, _ => rfl
 | 0, g + 1, b :: r, a, h, _ => absurd h (by simp)
 | f + 1, 0, [], a, _, _ => rfl
 | f + 1, 0, b :: r, a, _, h => absurd h (by simp)
 | f + 1, g + 1, [], a, _, _ => rfl
 | f + 1, g + 1, b :: r, a, hf, hg => by
  simp only [List.length_cons] at hf hg
  rw [lexK, lexK]
  by_cases hb : isBlank b = true
  ·rw [if_pos hb, if_pos hb]; exact lex_fuel f g _ _ (by omega) (by omega)
  rw [if_neg hb, if_neg hb]
  by_cases h35 : b = 35
  ·rw [if_pos h35, if_pos h35]
   have h1 : spanN (fun c => c != 10) (b :: r) = spanN (fun c => c != 10) r + 1 := by rw [spanN, if_pos (by rw [h35]; decide)]
   exact lex_fuel f g _ _ (by rw [List.length_drop, h1]; simp; omega) (by rw [List.length_drop, h1]; simp; omega)
  rw [if_neg h35, if_neg h35]
  cases ht : tokQ (b :: r) with
  | none => rfl
  | some p =>
   obtain ⟨-, h1, h2⟩ := tok_right (t := p.1) (n := p.2) ht
   dsimp only [Option.bind]
   rw [lex_fuel f g ((b :: r).drop p.2) (a + p.2) (by rw [List.length_drop]; simp only [List.length_cons]; omega) (by rw [List.length_drop]; simp only [List.length_cons]; omega)]
theorem lexF_nil (a : Nat) : lexF [] a = some [] := rfl
theorem lexF_blank {b : UInt8} {r : Str} {a : Nat} (h : isBlank b = true) : lexF (b :: r) a = lexF r (a + 1) := by
 show lexK (r.length + 1) (b :: r) a = _
 rw [lexK, if_pos h]
 rfl
theorem lexF_tok {b : UInt8} {r : Str} {a : Nat} {t : Tk} {n : Nat} (hb : isBlank b = false) (h35 : b ≠ 35) (h : tokQ (b :: r) = some (t, n)) : lexF (b :: r) a = (lexF ((b :: r).drop n) (a + n)).map fun l => (t, a) :: l := by
 obtain ⟨-, h1, h2⟩ := tok_right h
 show lexK (r.length + 1) (b :: r) a = _
 rw [lexK, if_neg (by rw [hb]; decide), if_neg h35, h]
 dsimp only [Option.bind]
 unfold lexF
 rw [lex_fuel r.length _ ((b :: r).drop n) (a + n) (by rw [List.length_drop]; simp only [List.length_cons]; omega) (Nat.le_refl _)]
theorem spell_head {t : Tk} (h : RightT t) : ∃ b q, spellT t = b :: q ∧ isBlank b = false ∧ b ≠ 35 := by
 obtain ⟨kind, word, n⟩ := t
 rcases h with ⟨hk, hn, b, q, hw, hb, hall, hlen⟩ | ⟨hk, hw, hin⟩ | ⟨hk, hn, hw⟩ | h
 ·dsimp only at hk hn hw
  subst hk hn
  obtain ⟨-, f2, f3, -⟩ := letter_facts hb
  exact ⟨b, q, hw, f2, f3⟩
 ·dsimp only at hk hw
  subst hk hw
  show ∃ b q, numStr n = b :: q ∧ _
  unfold numStr
  by_cases hneg : n < 0
  ·rw [if_pos hneg]
   exact ⟨95, _, rfl, by decide, by decide⟩
  ·rw [if_neg hneg]
   obtain ⟨d1, d2, d3⟩ := dec_digits n.toNat
   cases hx : decDigits n.toNat with
   | nil => exact absurd hx d3
   | cons b q =>
    obtain ⟨-, f2, f3, -, -⟩ := digit_facts (d2 b (by rw [hx]; exact List.mem_cons_self))
    exact ⟨b, q, rfl, f2, f3⟩
 ·dsimp only at hk hn hw
  subst hk hn
  rcases hw with ⟨b, hw, hb⟩ | hw | hw
  ·obtain ⟨-, f2, f3, -, -, -⟩ := sign_facts hb
   exact ⟨b, [], hw, f2, f3⟩
  ·exact ⟨60, [61], hw, by decide, by decide⟩
  ·exact ⟨62, [61], hw, by decide, by decide⟩
 ·rw [h]
  exact ⟨10, [], rfl, by decide, by decide⟩
theorem lex_one {t : Tk} (h : RightT t) {r : Str} (hs : Stop t r) (a : Nat) : lexF (spellT t ++ r) a = (lexF r (a + (spellT t).length)).map fun l => (t, a) :: l := by
 obtain ⟨b, q, hb, h1, h2⟩ := spell_head h
 have ht := tok_spell h hs
 rw [hb] at ht ⊢
 rw [List.cons_append] at ht ⊢
 rw [lexF_tok h1 h2 ht]
 congr 1
 rw [← List.cons_append, List.drop_left]
theorem stop_nil (t : Tk) : Stop t [] := fun b h => by cases h
theorem stop_blank (t : Tk) (r : Str) : Stop t (32 :: r) := fun b h => by
 cases h
 exact ⟨fun _ => by decide, fun _ => by decide, fun _ => by decide⟩
def bare (l : List (Tk × Nat)) : List Tk := l.map (·.1)
inductive Laid : Str → List Tk → Prop where
 | nil : Laid [] []
 | blank {s l} : Laid s l → Laid (32 :: s) l
 | tok {t s l} : RightT t → Stop t s → Laid s l → Laid (spellT t ++ s) (t :: l)
theorem laid_lex {s : Str} {l : List Tk} (h : Laid s l) : ∀ a, ∃ q, lexF s a = some q ∧ bare q = l := by
 induction h with
 | nil => exact fun a => ⟨[], rfl, rfl⟩
 | blank _ ih => exact fun a => by rw [lexF_blank (by decide)]; exact ih (a + 1)
 | tok ht hs _ ih =>
  intro a
  obtain ⟨q, h1, h2⟩ := ih (a + (spellT _).length)
  exact ⟨_ :: q, by rw [lex_one ht hs a, h1]; rfl, by unfold bare at h2 ⊢; rw [List.map_cons, h2]⟩
end Go.Proofs.YtokghjnkfabgiaaGreatDoor

namespace Go.Proofs.YtokghjnkfabgiaaGreatDoor
open Go.Lib

structure SplR (L : Spl) : Prop where
 verb : ∀ s, L.V.verb s = true → RightT (L.tok s)
 name : ∀ s, L.V.name s = true → RightT (nameT s)
def joinS (sep : Str) : List Str → Str
 | [] => []
 | [w] => w
 | w :: r => w ++ (sep ++ joinS sep r)
theorem join_cons {sep w : Str} {r : List Str} (h : r ≠ []) : joinS sep (w :: r) = w ++ (sep ++ joinS sep r) := by
 cases r with
 | nil => exact absurd rfl h
 | cons x r => rfl
theorem join_append {sep : Str} : ∀ {a b : List Str}, a ≠ [] → b ≠ [] → joinS sep (a ++ b) = joinS sep a ++ (sep ++ joinS sep b)
 | [], b, h, _ => absurd rfl h
 | [w], b, _, hb => join_cons hb
 | w :: x :: a, b, _, hb => by
  show joinS sep (w :: (x :: a ++ b)) = _
  rw [join_cons (by simp), join_append (List.cons_ne_nil x a) hb, join_cons (List.cons_ne_nil x a)]
  simp only [List.append_assoc]
structure Pc where
 words : List Str
 nest : Nat
 tokens : Nat
 plain : Bool
def brackW : List Str → List Str
 | [] => []
 | w :: r => match r.reverse with
  | [] => [40 :: w ++ [41]]
  | z :: q => (40 :: w) :: (q.reverse ++ [z ++ [41]])
def vstrS (L : Spl) (i : Itm) : Str × Nat :=
 if i.how = 3 then (L.wone i.fn, 1)
 else if L.wtwo i.fn = [] ∨ i.how = 4 then (L.wtwo i.fn, 1)
 else if 17 < i.fn then ([], 0)
 else (L.wtwo i.fn ++ (if i.how = 5 then [47] else if i.how = 6 then [92] else [46]), 2)
def showStep (L : Spl) (have_ : List Pc) (i : Itm) : Option (List Pc) :=
 if i.how = 2 then (if i.fn = 0 ∧ i.nums = [] ∧ L.V.name i.name = true then some (⟨[i.name], 0, 1, true⟩ :: have_) else none)
 else if i.how = 1 then (if i.fn = 0 ∧ i.name = [] ∧ i.nums ≠ [] ∧ i.nums.length ≤ 256 then some (⟨i.nums.map numStr, 0, i.nums.length, true⟩ :: have_) else none)
 else if i.how < 3 ∨ 7 < i.how ∨ i.nums ≠ [] ∨ i.name ≠ [] then none
 else if (vstrS L i).1 = [] then none
 else if i.how = 4 ∨ i.how = 7 then match have_ with
  | p :: q :: r => some (⟨(if q.plain then q.words else brackW q.words) ++ ((vstrS L i).1 :: p.words), max p.nest (if q.plain then q.nest else q.nest + 1), p.tokens + (vstrS L i).2 + (if q.plain then q.tokens else q.tokens + 2), false⟩ :: r)
  | _ => none
 else match have_ with
  | p :: r => some (⟨(vstrS L i).1 :: p.words, p.nest, p.tokens + (vstrS L i).2, false⟩ :: r)
  | _ => none
def showK (L : Spl) : List Itm → List Pc → Option (List Pc)
 | [], h => some h
 | i :: r, h => (showStep L h i).bind (showK L r)
def showX (L : Spl) (l : List Itm) (most : Nat) : Option Str :=
 if most < l.length then none else
 (showK L l []).bind fun h => match h with
  | [p] => if most < p.tokens ∨ 32 < p.nest then none else some (joinS [32] p.words)
  | _ => none
variable {L : Spl}
def wordsE (L : Spl) : Ex → List Str
 | .num l => l.map numStr
 | .nam s => [s]
 | .mon i e => (vstrS L i).1 :: wordsE L e
 | .dy i a b => (if a.plain then wordsE L a else brackW (wordsE L a)) ++ ((vstrS L i).1 :: wordsE L b)
theorem vstr_facts {two : Bool} {i : Itm} (h : VI L.V two i) : (vstrS L i).1 ≠ [] ∧ (vstrS L i).2 = vlen i ∧ (vstrS L i).1 = ((L.vtok i).map spellT).flatten ∧ 3 ≤ i.how ∧ i.how ≤ 7 ∧ i.nums = [] ∧ i.name = [] ∧ ((i.how = 4 ∨ i.how = 7) ↔ two = true) := by
 obtain ⟨hn, hl, s, h⟩ := h
 have hsp : ∀ w, spellT (L.tok w) = w := fun w => by
  unfold spellT Spl.tok
  dsimp only
  rcases L.kinds w with e | e <;> rw [e] <;> rfl
 have hsg : ∀ b, spellT (signT b) = [b] := fun b => rfl
 have h2 : ∀ {s : Str}, L.V.two s = i.fn → i.fn ≠ 0 → L.wtwo i.fn ≠ [] := fun {s} h h0 e => by
  have := L.two s (by rw [h]; exact h0)
  rw [h, e, L.two0] at this
  exact h0 this.symm
 have h1 : ∀ {s : Str}, L.V.one s = i.fn → i.fn ≠ 0 → L.wone i.fn ≠ [] := fun {s} h h0 e => by
  have := L.one s (by rw [h]; exact h0)
  rw [h, e, L.one0] at this
  exact h0 this.symm
 have n34 : ∀ {k : Int}, i.how = k → k ≠ 3 → k ≠ 4 → ¬ (i.how = 3 ∨ i.how = 4) := fun e h3 h4 h => h.elim (fun h => h3 (e.symm.trans h)) (fun h => h4 (e.symm.trans h))
 have hop : ∀ {k : Int}, i.how = k → k ≠ 3 → k ≠ 4 → L.wtwo i.fn ≠ [] → i.fn ≤ 17 → vstrS L i = (L.wtwo i.fn ++ (if i.how = 5 then [47] else if i.how = 6 then [92] else [46]), 2) ∧ L.vtok i = [L.tok (L.wtwo i.fn), signT (if i.how = 5 then 47 else if i.how = 6 then 92 else 46)] ∧ vlen i = 2 := fun e h3 h4 hw h17 => by
  have hn := n34 e h3 h4
  unfold vstrS Spl.vtok vlen
  rw [if_neg (fun h => hn (.inl h)), if_neg (show ¬ (L.wtwo i.fn = [] ∨ i.how = 4) from fun h => h.elim hw (fun h => hn (.inr h))), if_neg (show ¬ 17 < i.fn by omega), if_neg (fun h => hn (.inl h)), if_neg (show ¬ i.how = 4 from fun h => hn (.inr h)), if_neg hn]
  exact ⟨rfl, rfl, rfl⟩
 rcases h with ⟨g1, g2, g3, g4⟩ | ⟨g1, g2, g3, g4⟩ | ⟨g1, g2, g3, g4, g5⟩ | ⟨g1, g2, g3, g4, g5⟩
 ·have e1 : vstrS L i = (L.wone i.fn, 1) := by unfold vstrS; rw [if_pos g1]
  have e2 : L.vtok i = [L.tok (L.wone i.fn)] := by unfold Spl.vtok; rw [if_pos g1]
  have e3 : vlen i = 1 := by unfold vlen; rw [if_pos (.inl g1)]
  rw [e1, e2, e3]
  exact ⟨h1 g3 g4, rfl, by simp [hsp], by omega, by omega, hl, hn, by rw [g2, g1]; decide⟩
 ·have e1 : vstrS L i = (L.wtwo i.fn, 1) := by unfold vstrS; rw [if_neg (show ¬ i.how = 3 by omega), if_pos (.inr g1)]
  have e2 : L.vtok i = [L.tok (L.wtwo i.fn)] := by unfold Spl.vtok; rw [if_neg (show ¬ i.how = 3 by omega), if_pos g1]
  have e3 : vlen i = 1 := by unfold vlen; rw [if_pos (.inr g1)]
  rw [e1, e2, e3]
  exact ⟨h2 g3 g4, rfl, by simp [hsp], by omega, by omega, hl, hn, by rw [g2, g1]; decide⟩
 ·have hw := h2 g3 g4
  rcases g1 with g1 | g1
  ·obtain ⟨e1, e2, e3⟩ := hop g1 (by decide) (by decide) hw g5
   rw [e1, e2, e3, g1]
   exact ⟨by simp [hw], rfl, by simp [hsp, hsg], by omega, by omega, hl, hn, by rw [g2]; decide⟩
  ·obtain ⟨e1, e2, e3⟩ := hop g1 (by decide) (by decide) hw g5
   rw [e1, e2, e3, g1]
   exact ⟨by simp [hw], rfl, by simp [hsp, hsg], by omega, by omega, hl, hn, by rw [g2]; decide⟩
 ·have hw := h2 g3 g4
  obtain ⟨e1, e2, e3⟩ := hop g1 (by decide) (by decide) hw g5
  rw [e1, e2, e3, g1]
  exact ⟨by simp [hw], rfl, by simp [hsp, hsg], by omega, by omega, hl, hn, by rw [g2]; decide⟩
theorem show_ex {P : Int → Prop} : ∀ (e : Ex) (h : List Pc) (r : List Itm), e.fine L.V P → e.len ≤ 256 → showK L (e.post ++ r) h = showK L r (⟨wordsE L e, e.nest, e.len, e.plain⟩ :: h)
 | .num l, h, r, he, hl => by
  show (showStep L h ⟨1, 0, [], l⟩).bind (showK L r) = _
  unfold showStep
  rw [if_neg (show ¬ (1 : Int) = 2 by decide), if_pos (show (1 : Int) = 1 from rfl), if_pos ⟨rfl, rfl, he.1, hl⟩]
  rfl
 | .nam s, h, r, he, hl => by
  show (showStep L h ⟨2, 0, s, []⟩).bind (showK L r) = _
  unfold showStep
  rw [if_pos (show (2 : Int) = 2 from rfl), if_pos ⟨rfl, rfl, he⟩]
  rfl
 | .mon i e, h, r, he, hl => by
  have hle : e.len ≤ 256 := by simp only [Ex.len] at hl; omega
  rw [Ex.post, List.append_assoc, show_ex e h _ he.2 hle]
  obtain ⟨v1, v2, -, v4, v5, v6, v7, v8⟩ := vstr_facts he.1
  show (showStep L _ i).bind (showK L r) = _
  unfold showStep
  rw [if_neg (by omega), if_neg (by omega), if_neg (by rintro (e | e | e | e); omega; omega; exact e v6; exact e v7), if_neg v1, if_neg (fun h => absurd (v8.1 h) (by decide))]
  dsimp only [Option.bind]
  rw [v2, Nat.add_comm]
  rfl
 | .dy i a b, h, r, he, hl => by
  have hla : a.len ≤ 256 := by simp only [Ex.len] at hl; omega
  have hlb : b.len ≤ 256 := by simp only [Ex.len] at hl; omega
  rw [Ex.post, List.append_assoc, List.append_assoc, show_ex a h _ he.2.1 hla, show_ex b _ _ he.2.2 hlb]
  obtain ⟨v1, v2, -, v4, v5, v6, v7, v8⟩ := vstr_facts he.1
  show (showStep L _ i).bind (showK L r) = _
  unfold showStep
  rw [if_neg (by omega), if_neg (by omega), if_neg (by rintro (e | e | e | e); omega; omega; exact e v6; exact e v7), if_neg v1, if_pos (v8.2 rfl)]
  dsimp only [Option.bind]
  rw [v2]
  congr 2
  cases hp : a.plain <;> simp [hp, wordsE, Ex.nest, Ex.len, show (Ex.dy i a b).plain = false from rfl] <;> omega
def textE (L : Spl) : Ex → Str
 | .num l => joinS [32] (l.map numStr)
 | .nam s => s
 | .mon i e => (vstrS L i).1 ++ (32 :: textE L e)
 | .dy i a b => (if a.plain then textE L a else 40 :: (textE L a ++ [41])) ++ (32 :: ((vstrS L i).1 ++ (32 :: textE L b)))
theorem words_ne {P : Int → Prop} : ∀ {e : Ex}, e.fine L.V P → wordsE L e ≠ []
 | .num l, h => by simp [wordsE, h.1]
 | .nam s, h => by simp [wordsE]
 | .mon i e, h => by simp [wordsE]
 | .dy i a b, h => by simp [wordsE]
theorem brack_one (w : Str) : brackW [w] = [40 :: w ++ [41]] := rfl
theorem brack_more (w z : Str) (q : List Str) : brackW (w :: (q ++ [z])) = (40 :: w) :: (q ++ [z ++ [41]]) := by
 have : ∀ r : List Str, r.reverse = z :: q.reverse → brackW (w :: r) = (40 :: w) :: (q ++ [z ++ [41]]) := fun r h => by
  show (match r.reverse with
   | [] => [40 :: w ++ [41]]
   | z :: q => (40 :: w) :: (q.reverse ++ [z ++ [41]])) = _
  rw [h]
  simp
 exact this _ (by simp)
theorem snoc_cases {α : Type} (r : List α) : r = [] ∨ ∃ q z, r = q ++ [z] := by
 cases hr : r.reverse with
 | nil => exact .inl (by simpa using hr)
 | cons z q => exact .inr ⟨q.reverse, z, by have := congrArg List.reverse hr; simpa using this⟩
theorem brack_ne {ws : List Str} (h : ws ≠ []) : brackW ws ≠ [] := by
 cases ws with
 | nil => exact absurd rfl h
 | cons w r =>
  rcases snoc_cases r with rfl | ⟨q, z, rfl⟩
  ·rw [brack_one]; simp
  ·rw [brack_more]; simp
theorem brack_join {ws : List Str} (h : ws ≠ []) : joinS [32] (brackW ws) = 40 :: (joinS [32] ws ++ [41]) := by
 cases ws with
 | nil => exact absurd rfl h
 | cons w r =>
  rcases snoc_cases r with rfl | ⟨q, z, rfl⟩
  ·rw [brack_one]; rfl
  ·rw [brack_more, join_cons (by simp), join_cons (by simp)]
   have hz : ∀ (q : List Str), joinS [32] (q ++ [z ++ [41]]) = joinS [32] (q ++ [z]) ++ [41] := fun q => by
    cases q with
    | nil => rfl
    | cons x q => rw [join_append (List.cons_ne_nil x q) (by simp), join_append (List.cons_ne_nil x q) (by simp)]; simp [joinS, List.append_assoc]
   rw [hz]
   simp [List.append_assoc]
theorem words_text {P : Int → Prop} : ∀ {e : Ex}, e.fine L.V P → joinS [32] (wordsE L e) = textE L e
 | .num l, h => rfl
 | .nam s, h => rfl
 | .mon i e, h => by
  show joinS [32] ((vstrS L i).1 :: wordsE L e) = _
  rw [join_cons (words_ne h.2), words_text h.2]
  rfl
 | .dy i a b, h => by
  have hne : (if a.plain then wordsE L a else brackW (wordsE L a)) ≠ [] := by
   have := words_ne h.2.1
   split
   ·exact this
   ·exact brack_ne this
  show joinS [32] (_ ++ ((vstrS L i).1 :: wordsE L b)) = _
  rw [join_append hne (by simp), join_cons (words_ne h.2.2), words_text h.2.2]
  have hl : joinS [32] (if a.plain then wordsE L a else brackW (wordsE L a)) = if a.plain then textE L a else 40 :: (textE L a ++ [41]) := by
   split
   ·exact words_text h.2.1
   ·rw [brack_join (words_ne h.2.1), words_text h.2.1]
  rw [hl]
  rfl
theorem post_len : ∀ e : Ex, (∀ {P : Int → Prop} {V : Voc}, e.fine V P → e.post.length ≤ e.len)
 | .num l, P, V, h => by
  have := h.1
  cases l with
  | nil => exact absurd rfl this
  | cons x l => simp [Ex.post, Ex.len]
 | .nam s, P, V, h => Nat.le_refl _
 | .mon i e, P, V, h => by
  have := post_len e h.2
  have h1 : 1 ≤ vlen i := by unfold vlen; split <;> omega
  simp only [Ex.post, Ex.len, List.length_append, List.length_cons, List.length_nil]
  omega
 | .dy i a b, P, V, h => by
  have h2 := post_len a h.2.1
  have h3 := post_len b h.2.2
  have h1 : 1 ≤ vlen i := by unfold vlen; split <;> omega
  simp only [Ex.post, Ex.len, List.length_append, List.length_cons, List.length_nil]
  omega
theorem show_tree {P : Int → Prop} {e : Ex} (he : e.fine L.V P) {most : Nat} (hm : most ≤ 256) (hl : e.len ≤ most) (hn : e.nest ≤ 32) : showX L e.post most = some (textE L e) := by
 unfold showX
 have := post_len e he
 rw [if_neg (by omega)]
 have h := show_ex e [] [] he (by omega)
 rw [List.append_nil] at h
 rw [h]
 show (if most < e.len ∨ 32 < e.nest then none else some (joinS [32] (wordsE L e))) = _
 rw [if_neg (by omega), words_text he]
def Soft (s : Str) : Prop := ∀ b, s.head? = some b → isNameB b = false ∧ isDigit b = false ∧ b ≠ 61
theorem soft_stop {t : Tk} {s : Str} (h : Soft s) : Stop t s := fun b hb => ⟨fun _ => (h b hb).1, fun _ => (h b hb).2.1, fun _ => (h b hb).2.2⟩
theorem soft_blank (s : Str) : Soft (32 :: s) := fun b h => by cases h; decide
theorem soft_close (s : Str) : Soft (41 :: s) := fun b h => by cases h; decide
theorem soft_line (s : Str) : Soft (10 :: s) := fun b h => by cases h; decide
theorem right_num {n : Int} (h : in64B n = true) : RightT (numT n) := .inr (.inl ⟨rfl, rfl, h⟩)
theorem laid_nums : ∀ (l : List Int) (s : Str) (q : List Tk), (∀ n ∈ l, in64B n = true) → l ≠ [] → Soft s → Laid s q → Laid (joinS [32] (l.map numStr) ++ s) (l.map numT ++ q)
 | [], s, q, _, h, _, _ => absurd rfl h
 | [n], s, q, h, _, hs, hq => .tok (right_num (h n List.mem_cons_self)) (soft_stop hs) hq
 | n :: m :: l, s, q, h, _, hs, hq => by
  have ih := laid_nums (m :: l) s q (fun x hx => h x (List.mem_cons_of_mem _ hx)) (by simp) hs hq
  show Laid (joinS [32] (numStr n :: (m :: l).map numStr) ++ s) _
  rw [join_cons (by simp), List.append_assoc]
  exact .tok (t := numT n) (right_num (h n List.mem_cons_self)) (stop_blank _ _) (.blank ih)
theorem laid_verb (R : SplR L) {two : Bool} {i : Itm} (h : VI L.V two i) {s : Str} {q : List Tk} (hq : Laid s q) : Laid ((vstrS L i).1 ++ (32 :: s)) (L.vtok i ++ q) := by
 obtain ⟨-, -, v3, -⟩ := vstr_facts h
 obtain ⟨w, q2, hw, hv⟩ := vtok_head h
 rw [v3]
 have hqq : q2 = [] ∨ ∃ b, q2 = [signT b] ∧ (b = 47 ∨ b = 92 ∨ b = 46) := by
  unfold Spl.vtok at hw
  split at hw
  ·exact .inl (List.cons.inj hw).2.symm
  ·split at hw
   ·exact .inl (List.cons.inj hw).2.symm
   ·refine .inr ⟨_, (List.cons.inj hw).2.symm, ?_⟩
    split
    ·exact .inl rfl
    ·split
     ·exact .inr (.inl rfl)
     ·exact .inr (.inr rfl)
 rw [hw]
 rcases hqq with rfl | ⟨b, rfl, hb⟩
 ·simp only [List.map_cons, List.map_nil, List.flatten_cons, List.flatten_nil, List.append_nil]
  exact .tok (R.verb w hv) (stop_blank _ _) (.blank hq)
 ·simp only [List.map_cons, List.map_nil, List.flatten_cons, List.flatten_nil, List.append_nil, List.append_assoc]
  have hsb : isSignB b = true ∧ isNameB b = false ∧ isDigit b = false ∧ b ≠ 61 := by rcases hb with rfl | rfl | rfl <;> decide
  refine .tok (R.verb w hv) (soft_stop fun c hc => ?_) (.tok (t := signT b) (.inr (.inr (.inl ⟨rfl, rfl, .inl ⟨b, rfl, hsb.1⟩⟩))) (stop_blank _ _) (.blank hq))
  cases hc
  exact hsb.2
theorem laid_ex (R : SplR L) : ∀ (e : Ex) (s : Str) (q : List Tk), e.fine L.V (fun n => in64B n = true) → Soft s → Laid s q → Laid (textE L e ++ s) (L.etok e ++ q)
 | .num l, s, q, he, hs, hq => laid_nums l s q he.2 he.1 hs hq
 | .nam n, s, q, he, hs, hq => .tok (t := nameT n) (R.name n he) (soft_stop hs) hq
 | .mon i e, s, q, he, hs, hq => by
  have ih := laid_ex R e s q he.2 hs hq
  have := laid_verb R he.1 ih
  rw [Spl.etok, List.append_assoc]
  simpa [textE, List.append_assoc] using this
 | .dy i a b, s, q, he, hs, hq => by
  have ihb := laid_ex R b s q he.2.2 hs hq
  have hv := Laid.blank (laid_verb R he.1 ihb)
  rw [Spl.etok, List.append_assoc, List.append_assoc]
  show Laid ((if a.plain then textE L a else 40 :: (textE L a ++ [41])) ++ (32 :: ((vstrS L i).1 ++ (32 :: textE L b))) ++ s) _
  by_cases hp : a.plain = true
  ·rw [if_pos hp, if_pos hp]
   have := laid_ex R a _ _ he.2.1 (soft_blank _) hv
   simpa [List.append_assoc] using this
  ·rw [if_neg hp, if_neg hp]
   have h1 : Laid (41 :: (32 :: ((vstrS L i).1 ++ (32 :: (textE L b ++ s))))) (signT 41 :: (L.vtok i ++ (L.etok b ++ q))) :=
    .tok (t := signT 41) (.inr (.inr (.inl ⟨rfl, rfl, .inl ⟨41, rfl, by decide⟩⟩))) (stop_blank _ _) hv
   have h2 := laid_ex R a _ _ he.2.1 (soft_close _) h1
   have hst : ∀ r, Stop (signT 40) r := fun r c hc => ⟨fun e => absurd e (show ¬ (3 : Int) = 1 by decide), fun e => absurd e (show ¬ (3 : Int) = 2 by decide), fun e => by rcases e with e | e <;> exact absurd e (by decide)⟩
   have h3 := Laid.tok (t := signT 40) (.inr (.inr (.inl ⟨rfl, rfl, .inl ⟨40, rfl, by decide⟩⟩))) (hst _) h2
   simpa [List.append_assoc, spellT, signT] using h3
end Go.Proofs.YtokghjnkfabgiaaGreatDoor
