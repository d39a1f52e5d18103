import Derived.Lib.ItoaNum
import Derived.Lib.Atoi
namespace Go.Proofs.YtokghjnkfabgiaaGreatDoor
set_option maxRecDepth 100000
set_option linter.unusedVariables false
set_option linter.unusedSimpArgs false

/-! Expressions, read and shown: plain. Tokens here have no places. -/
abbrev Str := List UInt8
structure Tk where
  kind : Int
  word : Str
  n : Int
/-- kinds: 1 a word, 2 a number, 3 a sign, 4 a line's end -/
structure Itm where
  how : Int
  fn : Int
  name : Str
  nums : List Int
/-- what a language's words mean: the verbs of two, of one; which words are names -/
structure Voc where
  two : Str → Int
  one : Str → Int
  name : Str → Bool
def Voc.verb (V : Voc) (s : Str) : Bool := V.one s != 0 || V.two s != 0
def lineT : Tk := ⟨4, [], 0⟩
def signT (b : UInt8) : Tk := ⟨3, [b], 0⟩
def headT (r : List Tk) : Tk := r.headD lineT
def isSign (t : Tk) (b : UInt8) : Bool := t.kind == 3 && decide (t.word = [b])
/-- the phrase that begins with a verb: its item, what stands behind it -/
def phraseQ (V : Voc) (left : Bool) (t op : Tk) (r1 r2 : List Tk) : Option (Itm × List Tk) :=
  if op.kind = 3 ∧ (op.word = [47] ∨ op.word = [92] ∨ op.word = [46]) then
    if 17 < V.two t.word ∨ (decide (op.word = [46]) != left) = true then none
    else if V.two t.word = 0 then none
    else some (⟨if op.word = [47] then 5 else if op.word = [92] then 6 else 7, V.two t.word, [], []⟩, r2)
  else if (if left = true then V.two t.word else V.one t.word) = 0 then none else some (⟨if left = true then 4 else 3, if left = true then V.two t.word else V.one t.word, [], []⟩, r1)
def phraseP (V : Voc) (left : Bool) (r : List Tk) : Option (Itm × List Tk) := phraseQ V left (headT r) (headT r.tail) r.tail r.tail.tail
/-- numbers ahead -/
def numsP : List Tk → List Int × List Tk
  | [] => ([], [])
  | t :: r => if t.kind = 2 then (t.n :: (numsP r).1, (numsP r).2) else ([], t :: r)
/-- what is still to be done, up to a bracket -/
def finishP : List Itm → List (Option Itm) → List Itm × List (Option Itm)
  | out, some i :: r => finishP (out ++ [i]) r
  | out, r => (out, r)
structure PS where
  rest : List Tk
  out : List Itm
  todo : List (Option Itm)
  opn : Nat
/-- brackets that close -/
def closeP : List Tk → List Itm → List (Option Itm) → Nat → PS
  | t :: r, out, todo, k + 1 =>
    if isSign t 41 then closeP r (finishP out todo).1 (finishP out todo).2.tail k else ⟨t :: r, out, todo, k + 1⟩
  | r, out, todo, k => ⟨r, out, todo, k⟩
/-- where an operand is wanted; t: the next token -/
def wantQ (V : Voc) (K : Bool → PS → Option (List Itm)) (t : Tk) (s : PS) : Option (List Itm) :=
  if t.kind ≠ 2 ∧ t.kind ≠ 4 ∧ V.verb t.word = true then (phraseP V false s.rest).bind fun p => K true ⟨p.2, s.out, some p.1 :: s.todo, s.opn⟩
  else if isSign t 40 = true then (if s.opn = 32 then none else K true ⟨s.rest.tail, s.out, none :: s.todo, s.opn + 1⟩)
  else if t.kind = 2 then K false ⟨(numsP s.rest).2, s.out ++ [⟨1, 0, [], (numsP s.rest).1⟩], s.todo, s.opn⟩
  else if t.kind = 1 ∧ V.name t.word = true then K false ⟨s.rest.tail, s.out ++ [⟨2, 0, t.word, []⟩], s.todo, s.opn⟩
  else none
/-- behind an operand, and the brackets that close -/
def behQ (V : Voc) (K : Bool → PS → Option (List Itm)) (t : Tk) (s : PS) : Option (List Itm) :=
  if t.kind = 4 then (if 0 < s.opn then none else some (finishP s.out s.todo).1)
  else if t.kind = 2 ∨ V.verb t.word = false then none
  else (phraseP V true s.rest).bind fun p => K true ⟨p.2, s.out, some p.1 :: s.todo, s.opn⟩
/-- an expression, from where an operand is wanted (true) or one stands behind (false) -/
def exprK (V : Voc) : Nat → Bool → PS → Option (List Itm)
  | 0, _, _ => none
  | f + 1, true, s => wantQ V (fun b s => exprK V f b s) (headT s.rest) s
  | f + 1, false, s => behQ V (fun b s => exprK V f b s) (headT (closeP s.rest s.out s.todo s.opn).rest) (closeP s.rest s.out s.todo s.opn)
/-! trees -/
inductive Ex where
  | num (l : List Int)
  | nam (s : Str)
  | mon (i : Itm) (e : Ex)
  | dy (i : Itm) (a b : Ex)
def Ex.post : Ex → List Itm
  | .num l => [⟨1, 0, [], l⟩]
  | .nam s => [⟨2, 0, s, []⟩]
  | .mon i e => e.post ++ [i]
  | .dy i a b => a.post ++ b.post ++ [i]
def Ex.plain : Ex → Bool
  | .num _ => true
  | .nam _ => true
  | _ => false
/-- how many tokens a verb has -/
def vlen (i : Itm) : Nat := if i.how = 3 ∨ i.how = 4 then 1 else 2
def Ex.len : Ex → Nat
  | .num l => l.length
  | .nam _ => 1
  | .mon i e => vlen i + e.len
  | .dy i a b => a.len + (if a.plain then 0 else 2) + vlen i + b.len
def Ex.llen (e : Ex) : Nat := e.len + if e.plain then 0 else 2
def Ex.nest : Ex → Nat
  | .num _ => 0
  | .nam _ => 0
  | .mon _ e => e.nest
  | .dy _ a b => max b.nest (a.nest + if a.plain then 0 else 1)
def Ex.lnest (e : Ex) : Nat := e.nest + if e.plain then 0 else 1
/-- a verb's item -/
def VI (V : Voc) (two : Bool) (i : Itm) : Prop := i.name = [] ∧ i.nums = [] ∧ ∃ s, (i.how = 3 ∧ two = false ∧ V.one s = i.fn ∧ i.fn ≠ 0) ∨ (i.how = 4 ∧ two = true ∧ V.two s = i.fn ∧ i.fn ≠ 0) ∨ ((i.how = 5 ∨ i.how = 6) ∧ two = false ∧ V.two s = i.fn ∧ i.fn ≠ 0 ∧ i.fn ≤ 17) ∨ (i.how = 7 ∧ two = true ∧ V.two s = i.fn ∧ i.fn ≠ 0 ∧ i.fn ≤ 17)
/-- which numbers may stand there -/
def Ex.fine (V : Voc) (P : Int → Prop) : Ex → Prop
  | .num l => l ≠ [] ∧ ∀ x ∈ l, P x
  | .nam s => V.name s = true
  | .mon i e => VI V false i ∧ e.fine V P
  | .dy i a b => VI V true i ∧ a.fine V P ∧ b.fine V P
/-! what is read is a tree that is not longer, nor deeper -/
inductive Fr where
  | mon (i : Itm)
  | dy (i : Itm) (a : Ex)
  | opn
def Fr.item : Fr → Option Itm
  | .mon i => some i
  | .dy i _ => some i
  | .opn => none
/-- the numbers that stand in out, the lowest frame's ahead (frames: the top ahead) -/
def outF : List Fr → List Itm
  | [] => []
  | .dy _ a :: r => outF r ++ a.post
  | _ :: r => outF r
def lenF : List Fr → Nat
  | [] => 0
  | .mon i :: r => vlen i + lenF r
  | .dy i a :: r => a.llen + vlen i + lenF r
  | .opn :: r => 1 + lenF r
def opnF : List Fr → Nat
  | [] => 0
  | .opn :: r => opnF r + 1
  | _ :: r => opnF r
def fineF (V : Voc) (P : Int → Prop) : List Fr → Prop
  | [] => True
  | .mon i :: r => VI V false i ∧ fineF V P r
  | .dy i a :: r => VI V true i ∧ a.fine V P ∧ a.lnest + opnF r ≤ 32 ∧ fineF V P r
  | .opn :: r => fineF V P r
/-- the frames up to a bracket, put together with what stands behind -/
def upF : List Fr → Ex → Ex × List Fr
  | .mon i :: r, e => upF r (.mon i e)
  | .dy i a :: r, e => upF r (.dy i a e)
  | r, e => (e, r)
theorem finish_up : ∀ (F : List Fr) (e : Ex), finishP (outF F ++ e.post) (F.map Fr.item) = (outF (upF F e).2 ++ (upF F e).1.post, (upF F e).2.map Fr.item)
  | [], e => by simp [finishP, upF, outF]
  | .mon i :: r, e => by
    have := finish_up r (.mon i e)
    simp only [List.map_cons, Fr.item, finishP, outF, upF]
    rw [← this, Ex.post, List.append_assoc]
  | .dy i a :: r, e => by
    have := finish_up r (.dy i a e)
    simp only [List.map_cons, Fr.item, finishP, outF, upF]
    rw [← this, Ex.post]
    simp [List.append_assoc]
  | .opn :: r, e => by simp [finishP, upF, outF, Fr.item]
theorem up_facts {V : Voc} {P : Int → Prop} : ∀ (F : List Fr) (e : Ex), fineF V P F → e.fine V P → e.nest + opnF F ≤ 32 →
    (upF F e).1.fine V P ∧ fineF V P (upF F e).2 ∧ (upF F e).1.len + lenF (upF F e).2 = e.len + lenF F ∧ (upF F e).1.nest + opnF F ≤ 32 ∧ opnF (upF F e).2 = opnF F ∧ ((upF F e).2 = [] ∨ ∃ r, (upF F e).2 = .opn :: r)
  | [], e, hF, he, hn => ⟨he, trivial, rfl, hn, rfl, .inl rfl⟩
  | .mon i :: r, e, hF, he, hn => by
    obtain ⟨h1, h2, h3, h4, h5, h6⟩ := up_facts r (.mon i e) hF.2 ⟨hF.1, he⟩ hn
    exact ⟨h1, h2, by rw [upF, h3]; simp only [Ex.len, lenF]; omega, h4, h5, h6⟩
  | .dy i a :: r, e, hF, he, hn => by
    obtain ⟨g1, g2, g3, g4⟩ := hF
    have hn' : (Ex.dy i a e).nest + opnF r ≤ 32 := by
      simp only [Ex.nest]
      unfold Ex.lnest at g3
      simp only [opnF] at hn
      omega
    obtain ⟨h1, h2, h3, h4, h5, h6⟩ := up_facts r (.dy i a e) g4 ⟨g1, g2, he⟩ hn'
    exact ⟨h1, h2, by rw [upF, h3]; simp only [Ex.len, lenF, Ex.llen]; omega, h4, h5, h6⟩
  | .opn :: r, e, hF, he, hn => ⟨he, hF, rfl, hn, rfl, .inr ⟨r, rfl⟩⟩
end Go.Proofs.YtokghjnkfabgiaaGreatDoor

namespace Go.Proofs.YtokghjnkfabgiaaGreatDoor
set_option maxRecDepth 100000
set_option linter.unusedVariables false
set_option linter.unusedSimpArgs false

/-! Expressions: what is read is a tree that is not longer, nor deeper. -/
theorem phrase_facts {V : Voc} {left : Bool} {t : Tk} {r r' : List Tk} {i : Itm} (h : phraseP V left (t :: r) = some (i, r')) :
    VI V left i ∧ vlen i + r'.length = (t :: r).length ∧ ∀ x ∈ r', x ∈ t :: r := by
  change phraseQ V left t (r.headD lineT) r r.tail = some (i, r') at h
  obtain ⟨o, ho⟩ : ∃ o, r.headD lineT = o := ⟨_, rfl⟩
  rw [ho] at h
  unfold phraseQ at h
  by_cases hop : o.kind = 3 ∧ (o.word = [47] ∨ o.word = [92] ∨ o.word = [46])
  · rw [if_pos hop] at h
    by_cases h1 : 17 < V.two t.word ∨ (decide (o.word = [46]) != left) = true
    · rw [if_pos h1] at h; cases h
    rw [if_neg h1] at h
    by_cases h2 : V.two t.word = 0
    · rw [if_pos h2] at h; cases h
    rw [if_neg h2] at h
    have hr : ∃ r2, r = o :: r2 := by
      cases r with
      | nil => rw [← ho] at hop; exact absurd hop.1 (by simp [lineT])
      | cons o' r2 => exact ⟨r2, by rw [← ho]; rfl⟩
    obtain ⟨r2, rfl⟩ := hr
    simp only [Option.some.injEq, Prod.mk.injEq] at h
    obtain ⟨rfl, rfl⟩ := h
    have h17 : V.two t.word ≤ 17 := by omega
    have hl : decide (o.word = [46]) = left := by
      have : ¬ (decide (o.word = [46]) != left) = true := fun e => h1 (.inr e)
      simpa using this
    refine ⟨⟨rfl, rfl, t.word, ?_⟩, ?_, fun x hx => List.mem_cons_of_mem _ (List.mem_cons_of_mem _ hx)⟩
    · rcases hop.2 with e | e | e
      · have : left = false := by rw [← hl, e]; decide
        exact .inr (.inr (.inl ⟨.inl (by simp [e]), this, rfl, h2, h17⟩))
      · have : left = false := by rw [← hl, e]; decide
        exact .inr (.inr (.inl ⟨.inr (by simp [e]), this, rfl, h2, h17⟩))
      · have : left = true := by rw [← hl, e]; decide
        exact .inr (.inr (.inr ⟨by simp [e], this, rfl, h2, h17⟩))
    · have : ¬ ((if o.word = [47] then (5 : Int) else if o.word = [92] then 6 else 7) = 3 ∨ (if o.word = [47] then (5 : Int) else if o.word = [92] then 6 else 7) = 4) := by split <;> (try split) <;> decide
      show (if _ then 1 else 2) + r2.length = _
      rw [if_neg this]
      simp
      omega
  · rw [if_neg hop] at h
    by_cases h2 : (if left = true then V.two t.word else V.one t.word) = 0
    · rw [if_pos h2] at h; cases h
    rw [if_neg h2] at h
    simp only [Option.some.injEq, Prod.mk.injEq] at h
    obtain ⟨rfl, rfl⟩ := h
    refine ⟨⟨rfl, rfl, t.word, ?_⟩, ?_, fun x hx => List.mem_cons_of_mem _ hx⟩
    · cases left with
      | true => exact .inr (.inl ⟨rfl, rfl, rfl, h2⟩)
      | false => exact .inl ⟨rfl, rfl, rfl, h2⟩
    · have : ((if left = true then (4 : Int) else 3) = 3 ∨ (if left = true then (4 : Int) else 3) = 4) := by cases left <;> decide
      show (if _ then 1 else 2) + r.length = _
      rw [if_pos this]
      simp
      omega
theorem nums_facts : ∀ r : List Tk, (numsP r).1.length + (numsP r).2.length = r.length ∧ (∀ x ∈ (numsP r).2, x ∈ r) ∧ ∀ n ∈ (numsP r).1, ∃ t ∈ r, t.kind = 2 ∧ t.n = n
  | [] => ⟨rfl, fun x h => h, fun n h => by cases h⟩
  | t :: r => by
    obtain ⟨h1, h2, h3⟩ := nums_facts r
    rw [numsP]
    split
    · rename_i hk
      refine ⟨by simp only [List.length_cons]; omega, fun x hx => List.mem_cons_of_mem _ (h2 x hx), fun n hn => ?_⟩
      rcases List.mem_cons.1 hn with e | e
      · exact ⟨t, List.mem_cons_self, hk, e.symm⟩
      · obtain ⟨u, hu, e1, e2⟩ := h3 n e
        exact ⟨u, List.mem_cons_of_mem _ hu, e1, e2⟩
    · exact ⟨by simp, fun x hx => hx, fun n hn => by cases hn⟩
/-- behind an operand -/
structure Beh (V : Voc) (P : Int → Prop) (N : Nat) (F : List Fr) (e : Ex) (s : PS) : Prop where
  out : s.out = outF F ++ e.post
  todo : s.todo = F.map Fr.item
  opn : s.opn = opnF F
  fF : fineF V P F
  fe : e.fine V P
  nest : e.lnest + opnF F ≤ 32
  len : lenF F + e.llen + s.rest.length ≤ N
  nums : ∀ t ∈ s.rest, t.kind = 2 → P t.n
structure Wan (V : Voc) (P : Int → Prop) (N : Nat) (F : List Fr) (s : PS) : Prop where
  out : s.out = outF F
  todo : s.todo = F.map Fr.item
  opn : s.opn = opnF F
  le : opnF F ≤ 32
  fF : fineF V P F
  len : lenF F + s.rest.length ≤ N
  nums : ∀ t ∈ s.rest, t.kind = 2 → P t.n
theorem close_beh {V : Voc} {P : Int → Prop} {N : Nat} : ∀ (r : List Tk) (out : List Itm) (todo : List (Option Itm)) (k : Nat) (F : List Fr) (e : Ex), Beh V P N F e ⟨r, out, todo, k⟩ → ∃ F' e', Beh V P N F' e' (closeP r out todo k)
  | [], out, todo, 0, F, e, h => ⟨F, e, h⟩
  | [], out, todo, k + 1, F, e, h => ⟨F, e, h⟩
  | t :: r, out, todo, 0, F, e, h => ⟨F, e, h⟩
  | t :: r, out, todo, k + 1, F, e, h => by
    rw [closeP]
    by_cases hs : isSign t 41 = true
    · rw [if_pos hs]
      obtain ⟨h1, h2, h3, h4, h5, h6⟩ := up_facts F e h.fF h.fe (by have := h.nest; unfold Ex.lnest at this; omega)
      have hfin := finish_up F e
      have hout := h.out
      have htodo := h.todo
      dsimp only at hout htodo
      have ho : opnF F = k + 1 := h.opn.symm
      rcases h6 with h6 | ⟨G, hG⟩
      · rw [h6] at h5
        simp only [opnF] at h5
        omega
      · rw [hG] at h5 h3 h2 hfin
        simp only [opnF] at h5
        refine close_beh r _ _ k G (upF F e).1 ⟨?_, ?_, ?_, h2, h1, ?_, ?_, fun x hx => h.nums x (List.mem_cons_of_mem _ hx)⟩
        · dsimp only
          rw [hout, htodo, hfin]
          rfl
        · dsimp only
          rw [hout, htodo, hfin]
          rfl
        · dsimp only; omega
        · unfold Ex.lnest; split <;> omega
        · have := h.len
          simp only [lenF] at h3
          simp only [List.length_cons] at this
          dsimp only
          unfold Ex.llen at this ⊢
          have h7 : (if (upF F e).1.plain = true then 0 else 2) ≤ 2 := by split <;> omega
          omega
    · rw [if_neg hs]
      exact ⟨F, e, h⟩
theorem close_rest : ∀ (r : List Tk) (out : List Itm) (todo : List (Option Itm)) (k : Nat), (closeP r out todo k).rest.length ≤ r.length
  | [], out, todo, 0 => Nat.le_refl _
  | [], out, todo, k + 1 => Nat.le_refl _
  | t :: r, out, todo, 0 => Nat.le_refl _
  | t :: r, out, todo, k + 1 => by
    rw [closeP]
    split
    · exact Nat.le_trans (close_rest r _ _ k) (by simp)
    · exact Nat.le_refl _
theorem expr_sound {V : Voc} {P : Int → Prop} {N : Nat} : ∀ (f : Nat) (s : PS) (l : List Itm),
    (∀ F, Wan V P N F s → exprK V f true s = some l → ∃ e : Ex, l = e.post ∧ e.fine V P ∧ e.len ≤ N ∧ e.nest ≤ 32) ∧
    (∀ F e, Beh V P N F e s → exprK V f false s = some l → ∃ e : Ex, l = e.post ∧ e.fine V P ∧ e.len ≤ N ∧ e.nest ≤ 32)
  | 0, s, l => ⟨fun F h e => (by cases e), fun F e h e2 => (by cases e2)⟩
  | f + 1, s, l => by
    refine ⟨fun F h he => ?_, fun F e h he => ?_⟩
    · obtain ⟨rest, out, todo, opn⟩ := s
      cases rest with
      | nil =>
        rw [exprK] at he
        simp [wantQ, headT, lineT, isSign] at he
      | cons t r =>
        change wantQ V (fun b s => exprK V f b s) t ⟨t :: r, out, todo, opn⟩ = some l at he
        unfold wantQ at he
        by_cases hv : t.kind ≠ 2 ∧ t.kind ≠ 4 ∧ V.verb t.word = true
        · rw [if_pos hv] at he
          cases hp : phraseP V false (t :: r) with
          | none => dsimp only at he; rw [hp] at he; cases he
          | some p =>
            obtain ⟨i, r'⟩ := p
            dsimp only at he
            rw [hp] at he
            dsimp only [Option.bind] at he
            obtain ⟨g1, g2, g3⟩ := phrase_facts hp
            refine (expr_sound f ⟨r', out, some i :: todo, opn⟩ l).1 (.mon i :: F) ⟨h.out, ?_, h.opn, h.le, ⟨g1, h.fF⟩, ?_, fun x hx => h.nums x (g3 x hx)⟩ he
            · show some i :: todo = _
              rw [show todo = F.map Fr.item from h.todo]; rfl
            · have := h.len
              simp only [lenF]
              dsimp only at this ⊢
              omega
        rw [if_neg hv] at he
        by_cases hs : isSign t 40 = true
        · rw [if_pos hs] at he
          by_cases h32 : opn = 32
          · rw [if_pos h32] at he; cases he
          rw [if_neg h32] at he
          have ho : opn = opnF F := h.opn
          refine (expr_sound f ⟨r, out, none :: todo, opn + 1⟩ l).1 (.opn :: F) ⟨h.out, ?_, ?_, ?_, h.fF, ?_, fun x hx => h.nums x (List.mem_cons_of_mem _ hx)⟩ he
          · show none :: todo = _
            rw [show todo = F.map Fr.item from h.todo]; rfl
          · show opn + 1 = _
            rw [ho]; rfl
          · have := h.le
            simp only [opnF]
            omega
          · have := h.len
            simp only [lenF, List.length_cons] at this ⊢
            try dsimp only [List.tail_cons] at this ⊢
            omega
        rw [if_neg hs] at he
        by_cases hk : t.kind = 2
        · rw [if_pos hk] at he
          obtain ⟨g1, g2, g3⟩ := nums_facts (t :: r)
          have hne : (numsP (t :: r)).1 ≠ [] := by rw [numsP, if_pos hk]; simp
          refine (expr_sound f ⟨(numsP (t :: r)).2, out ++ [(⟨1, 0, [], (numsP (t :: r)).1⟩ : Itm)], todo, opn⟩ l).2 F (.num (numsP (t :: r)).1) ⟨?_, h.todo, h.opn, h.fF, ⟨hne, fun x hx => ?_⟩, ?_, ?_, fun x hx => h.nums x (g2 x hx)⟩ he
          · show out ++ _ = _
            rw [show out = outF F from h.out]; rfl
          · obtain ⟨u, hu, e1, e2⟩ := g3 x hx
            exact e2 ▸ h.nums u hu e1
          · have := h.le
            simp only [Ex.lnest, Ex.nest, Ex.plain]
            simpa using this
          · have := h.len
            simp only [Ex.llen, Ex.len, Ex.plain]
            dsimp only at this ⊢
            simp only [if_true]
            omega
        rw [if_neg hk] at he
        by_cases hn : t.kind = 1 ∧ V.name t.word = true
        · rw [if_pos hn] at he
          refine (expr_sound f ⟨r, out ++ [(⟨2, 0, t.word, []⟩ : Itm)], todo, opn⟩ l).2 F (.nam t.word) ⟨?_, h.todo, h.opn, h.fF, hn.2, ?_, ?_, fun x hx => h.nums x (List.mem_cons_of_mem _ hx)⟩ he
          · show out ++ _ = _
            rw [show out = outF F from h.out]; rfl
          · have := h.le
            simp only [Ex.lnest, Ex.nest, Ex.plain]
            simpa using this
          · have := h.len
            simp only [Ex.llen, Ex.len, Ex.plain]
            try dsimp only [List.tail_cons] at this ⊢
            simp only [if_true, List.length_cons] at this ⊢
            omega
        rw [if_neg hn] at he
        cases he
    · rw [exprK] at he
      obtain ⟨F', e', hb⟩ := close_beh s.rest s.out s.todo s.opn F e h
      obtain ⟨s', hs'⟩ : ∃ s', closeP s.rest s.out s.todo s.opn = s' := ⟨_, rfl⟩
      rw [hs'] at he hb
      obtain ⟨t, ht⟩ : ∃ t, headT s'.rest = t := ⟨_, rfl⟩
      rw [ht] at he
      unfold behQ at he
      by_cases h4 : t.kind = 4
      · rw [if_pos h4] at he
        by_cases h0 : 0 < s'.opn
        · rw [if_pos h0] at he; cases he
        rw [if_neg h0] at he
        obtain ⟨h1, h2, h3, h4, h5, h6⟩ := up_facts F' e' hb.fF hb.fe (by have := hb.nest; unfold Ex.lnest at this; omega)
        have hfin := finish_up F' e'
        have ho : opnF F' = 0 := by have := hb.opn; omega
        have hnil : (upF F' e').2 = [] := by
          rcases h6 with h6 | ⟨G, hG⟩
          · exact h6
          · rw [hG] at h5; simp only [opnF] at h5; omega
        simp only [Option.some.injEq] at he
        refine ⟨(upF F' e').1, ?_, h1, ?_, by omega⟩
        · rw [← he, hb.out, hb.todo, hfin, hnil]
          rfl
        · have := hb.len
          rw [hnil] at h3
          simp only [lenF] at h3
          unfold Ex.llen at this
          omega
      rw [if_neg h4] at he
      by_cases hv : t.kind = 2 ∨ V.verb t.word = false
      · rw [if_pos hv] at he; cases he
      rw [if_neg hv] at he
      obtain ⟨rest, out, todo, opn⟩ := s'
      cases hp : phraseP V true rest with
      | none => dsimp only at he; rw [hp] at he; cases he
      | some p =>
        obtain ⟨i, r'⟩ := p
        dsimp only at he
        rw [hp] at he
        dsimp only [Option.bind] at he
        cases rest with
        | nil => exact absurd (ht ▸ rfl) h4
        | cons t r =>
          obtain ⟨g1, g2, g3⟩ := phrase_facts hp
          refine (expr_sound f ⟨r', out, some i :: todo, opn⟩ l).1 (.dy i e' :: F') ⟨hb.out, ?_, hb.opn, ?_, ⟨g1, hb.fe, hb.nest, hb.fF⟩, ?_, fun x hx => hb.nums x (g3 x hx)⟩ he
          · show some i :: todo = _
            rw [show todo = F'.map Fr.item from hb.todo]; rfl
          · have := hb.nest
            simp only [opnF]
            omega
          · have := hb.len
            simp only [lenF]
            dsimp only at this ⊢
            omega
end Go.Proofs.YtokghjnkfabgiaaGreatDoor
