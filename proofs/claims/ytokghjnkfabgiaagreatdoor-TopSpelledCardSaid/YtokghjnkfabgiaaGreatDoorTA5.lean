import Derived.Test.YtokghjnkfabgiaaGreatDoorTA4
namespace Go.Proofs.YtokghjnkfabgiaaGreatDoor
set_option maxRecDepth 100000
open Go.Lib
set_option linter.unusedVariables false
set_option linter.unusedSimpArgs false

/-! Expressions, shown: plain. -/
/-- words that are right tokens -/
structure SplR (L : Spl) : Prop where
  verb : ∀ s, L.V.verb s = true → RightT (L.tok s)
  name : ∀ s, L.V.name s = true → RightT (nameT s)
def joinS (sep : Str) : List Str → Str
  | [] => []
  | [w] => w
  | w :: r => w ++ (sep ++ joinS sep r)
theorem join_cons {sep w : Str} {r : List Str} (h : r ≠ []) : joinS sep (w :: r) = w ++ (sep ++ joinS sep r) := by
  cases r with
  | nil => exact absurd rfl h
  | cons x r => rfl
theorem join_append {sep : Str} : ∀ {a b : List Str}, a ≠ [] → b ≠ [] → joinS sep (a ++ b) = joinS sep a ++ (sep ++ joinS sep b)
  | [], b, h, _ => absurd rfl h
  | [w], b, _, hb => join_cons hb
  | w :: x :: a, b, _, hb => by
    show joinS sep (w :: (x :: a ++ b)) = _
    rw [join_cons (by simp), join_append (List.cons_ne_nil x a) hb, join_cons (List.cons_ne_nil x a)]
    simp only [List.append_assoc]
/-- a piece: a value's text so far -/
structure Pc where
  words : List Str
  nest : Nat
  tokens : Nat
  plain : Bool
/-- brackets around words -/
def brackW : List Str → List Str
  | [] => []
  | w :: r => match r.reverse with
    | [] => [40 :: w ++ [41]]
    | z :: q => (40 :: w) :: (q.reverse ++ [z ++ [41]])
def vstrS (L : Spl) (i : Itm) : Str × Nat :=
  if i.how = 3 then (L.wone i.fn, 1)
  else if L.wtwo i.fn = [] ∨ i.how = 4 then (L.wtwo i.fn, 1)
  else if 17 < i.fn then ([], 0)
  else (L.wtwo i.fn ++ (if i.how = 5 then [47] else if i.how = 6 then [92] else [46]), 2)
/-- one item more -/
def showStep (L : Spl) (have_ : List Pc) (i : Itm) : Option (List Pc) :=
  if i.how = 2 then (if i.fn = 0 ∧ i.nums = [] ∧ L.V.name i.name = true then some (⟨[i.name], 0, 1, true⟩ :: have_) else none)
  else if i.how = 1 then (if i.fn = 0 ∧ i.name = [] ∧ i.nums ≠ [] ∧ i.nums.length ≤ 256 then some (⟨i.nums.map numStr, 0, i.nums.length, true⟩ :: have_) else none)
  else if i.how < 3 ∨ 7 < i.how ∨ i.nums ≠ [] ∨ i.name ≠ [] then none
  else if (vstrS L i).1 = [] then none
  else if i.how = 4 ∨ i.how = 7 then match have_ with
    | p :: q :: r => some (⟨(if q.plain then q.words else brackW q.words) ++ ((vstrS L i).1 :: p.words), max p.nest (if q.plain then q.nest else q.nest + 1), p.tokens + (vstrS L i).2 + (if q.plain then q.tokens else q.tokens + 2), false⟩ :: r)
    | _ => none
  else match have_ with
    | p :: r => some (⟨(vstrS L i).1 :: p.words, p.nest, p.tokens + (vstrS L i).2, false⟩ :: r)
    | _ => none
def showK (L : Spl) : List Itm → List Pc → Option (List Pc)
  | [], h => some h
  | i :: r, h => (showStep L h i).bind (showK L r)
def showX (L : Spl) (l : List Itm) (most : Nat) : Option Str :=
  if most < l.length then none else
  (showK L l []).bind fun h => match h with
    | [p] => if most < p.tokens ∨ 32 < p.nest then none else some (joinS [32] p.words)
    | _ => none
theorem show_append (L : Spl) : ∀ (a b : List Itm) (h : List Pc), showK L (a ++ b) h = (showK L a h).bind (showK L b)
  | [], b, h => rfl
  | i :: a, b, h => by
    show (showStep L h i).bind (showK L (a ++ b)) = ((showStep L h i).bind (showK L a)).bind (showK L b)
    cases showStep L h i with
    | none => rfl
    | some h' => exact show_append L a b h'
variable {L : Spl}
def wordsE (L : Spl) : Ex → List Str
  | .num l => l.map numStr
  | .nam s => [s]
  | .mon i e => (vstrS L i).1 :: wordsE L e
  | .dy i a b => (if a.plain then wordsE L a else brackW (wordsE L a)) ++ ((vstrS L i).1 :: wordsE L b)
/-- a verb's text and tokens -/
theorem vstr_facts {two : Bool} {i : Itm} (h : VI L.V two i) : (vstrS L i).1 ≠ [] ∧ (vstrS L i).2 = vlen i ∧ (vstrS L i).1 = ((L.vtok i).map spellT).flatten ∧ 3 ≤ i.how ∧ i.how ≤ 7 ∧ i.nums = [] ∧ i.name = [] ∧ ((i.how = 4 ∨ i.how = 7) ↔ two = true) := by
  obtain ⟨hn, hl, s, h⟩ := h
  have hsp : ∀ w, spellT (L.tok w) = w := fun w => by
    unfold spellT Spl.tok
    dsimp only
    rcases L.kinds w with e | e <;> rw [e] <;> rfl
  have hsg : ∀ b, spellT (signT b) = [b] := fun b => rfl
  have h2 : ∀ {s : Str}, L.V.two s = i.fn → i.fn ≠ 0 → L.wtwo i.fn ≠ [] := fun {s} h h0 e => by
    have := L.two s (by rw [h]; exact h0)
    rw [h, e, L.two0] at this
    exact h0 this.symm
  have h1 : ∀ {s : Str}, L.V.one s = i.fn → i.fn ≠ 0 → L.wone i.fn ≠ [] := fun {s} h h0 e => by
    have := L.one s (by rw [h]; exact h0)
    rw [h, e, L.one0] at this
    exact h0 this.symm
  have n34 : ∀ {k : Int}, i.how = k → k ≠ 3 → k ≠ 4 → ¬ (i.how = 3 ∨ i.how = 4) := fun e h3 h4 h => h.elim (fun h => h3 (e.symm.trans h)) (fun h => h4 (e.symm.trans h))
  have hop : ∀ {k : Int}, i.how = k → k ≠ 3 → k ≠ 4 → L.wtwo i.fn ≠ [] → i.fn ≤ 17 → vstrS L i = (L.wtwo i.fn ++ (if i.how = 5 then [47] else if i.how = 6 then [92] else [46]), 2) ∧ L.vtok i = [L.tok (L.wtwo i.fn), signT (if i.how = 5 then 47 else if i.how = 6 then 92 else 46)] ∧ vlen i = 2 := fun e h3 h4 hw h17 => by
    have hn := n34 e h3 h4
    unfold vstrS Spl.vtok vlen
    rw [if_neg (fun h => hn (.inl h)), if_neg (show ¬ (L.wtwo i.fn = [] ∨ i.how = 4) from fun h => h.elim hw (fun h => hn (.inr h))), if_neg (show ¬ 17 < i.fn by omega), if_neg (fun h => hn (.inl h)), if_neg (show ¬ i.how = 4 from fun h => hn (.inr h)), if_neg hn]
    exact ⟨rfl, rfl, rfl⟩
  rcases h with ⟨g1, g2, g3, g4⟩ | ⟨g1, g2, g3, g4⟩ | ⟨g1, g2, g3, g4, g5⟩ | ⟨g1, g2, g3, g4, g5⟩
  · have e1 : vstrS L i = (L.wone i.fn, 1) := by unfold vstrS; rw [if_pos g1]
    have e2 : L.vtok i = [L.tok (L.wone i.fn)] := by unfold Spl.vtok; rw [if_pos g1]
    have e3 : vlen i = 1 := by unfold vlen; rw [if_pos (.inl g1)]
    rw [e1, e2, e3]
    exact ⟨h1 g3 g4, rfl, by simp [hsp], by omega, by omega, hl, hn, by rw [g2, g1]; decide⟩
  · have e1 : vstrS L i = (L.wtwo i.fn, 1) := by unfold vstrS; rw [if_neg (show ¬ i.how = 3 by omega), if_pos (.inr g1)]
    have e2 : L.vtok i = [L.tok (L.wtwo i.fn)] := by unfold Spl.vtok; rw [if_neg (show ¬ i.how = 3 by omega), if_pos g1]
    have e3 : vlen i = 1 := by unfold vlen; rw [if_pos (.inr g1)]
    rw [e1, e2, e3]
    exact ⟨h2 g3 g4, rfl, by simp [hsp], by omega, by omega, hl, hn, by rw [g2, g1]; decide⟩
  · have hw := h2 g3 g4
    rcases g1 with g1 | g1
    · obtain ⟨e1, e2, e3⟩ := hop g1 (by decide) (by decide) hw g5
      rw [e1, e2, e3, g1]
      exact ⟨by simp [hw], rfl, by simp [hsp, hsg], by omega, by omega, hl, hn, by rw [g2]; decide⟩
    · obtain ⟨e1, e2, e3⟩ := hop g1 (by decide) (by decide) hw g5
      rw [e1, e2, e3, g1]
      exact ⟨by simp [hw], rfl, by simp [hsp, hsg], by omega, by omega, hl, hn, by rw [g2]; decide⟩
  · have hw := h2 g3 g4
    obtain ⟨e1, e2, e3⟩ := hop g1 (by decide) (by decide) hw g5
    rw [e1, e2, e3, g1]
    exact ⟨by simp [hw], rfl, by simp [hsp, hsg], by omega, by omega, hl, hn, by rw [g2]; decide⟩
theorem show_ex {P : Int → Prop} : ∀ (e : Ex) (h : List Pc) (r : List Itm), e.fine L.V P → e.len ≤ 256 → showK L (e.post ++ r) h = showK L r (⟨wordsE L e, e.nest, e.len, e.plain⟩ :: h)
  | .num l, h, r, he, hl => by
    show (showStep L h ⟨1, 0, [], l⟩).bind (showK L r) = _
    unfold showStep
    rw [if_neg (show ¬ (1 : Int) = 2 by decide), if_pos (show (1 : Int) = 1 from rfl), if_pos ⟨rfl, rfl, he.1, hl⟩]
    rfl
  | .nam s, h, r, he, hl => by
    show (showStep L h ⟨2, 0, s, []⟩).bind (showK L r) = _
    unfold showStep
    rw [if_pos (show (2 : Int) = 2 from rfl), if_pos ⟨rfl, rfl, he⟩]
    rfl
  | .mon i e, h, r, he, hl => by
    have hle : e.len ≤ 256 := by simp only [Ex.len] at hl; omega
    rw [Ex.post, List.append_assoc, show_ex e h _ he.2 hle]
    obtain ⟨v1, v2, -, v4, v5, v6, v7, v8⟩ := vstr_facts he.1
    show (showStep L _ i).bind (showK L r) = _
    unfold showStep
    rw [if_neg (by omega), if_neg (by omega), if_neg (by rintro (e | e | e | e); omega; omega; exact e v6; exact e v7), if_neg v1, if_neg (fun h => absurd (v8.1 h) (by decide))]
    dsimp only [Option.bind]
    rw [v2, Nat.add_comm]
    rfl
  | .dy i a b, h, r, he, hl => by
    have hla : a.len ≤ 256 := by simp only [Ex.len] at hl; omega
    have hlb : b.len ≤ 256 := by simp only [Ex.len] at hl; omega
    rw [Ex.post, List.append_assoc, List.append_assoc, show_ex a h _ he.2.1 hla, show_ex b _ _ he.2.2 hlb]
    obtain ⟨v1, v2, -, v4, v5, v6, v7, v8⟩ := vstr_facts he.1
    show (showStep L _ i).bind (showK L r) = _
    unfold showStep
    rw [if_neg (by omega), if_neg (by omega), if_neg (by rintro (e | e | e | e); omega; omega; exact e v6; exact e v7), if_neg v1, if_pos (v8.2 rfl)]
    dsimp only [Option.bind]
    rw [v2]
    congr 2
    cases hp : a.plain <;> simp [hp, wordsE, Ex.nest, Ex.len, show (Ex.dy i a b).plain = false from rfl] <;> omega
/-! the text -/
def textE (L : Spl) : Ex → Str
  | .num l => joinS [32] (l.map numStr)
  | .nam s => s
  | .mon i e => (vstrS L i).1 ++ (32 :: textE L e)
  | .dy i a b => (if a.plain then textE L a else 40 :: (textE L a ++ [41])) ++ (32 :: ((vstrS L i).1 ++ (32 :: textE L b)))
theorem words_ne {P : Int → Prop} : ∀ {e : Ex}, e.fine L.V P → wordsE L e ≠ []
  | .num l, h => by simp [wordsE, h.1]
  | .nam s, h => by simp [wordsE]
  | .mon i e, h => by simp [wordsE]
  | .dy i a b, h => by simp [wordsE]
theorem brack_one (w : Str) : brackW [w] = [40 :: w ++ [41]] := rfl
theorem brack_more (w z : Str) (q : List Str) : brackW (w :: (q ++ [z])) = (40 :: w) :: (q ++ [z ++ [41]]) := by
  have : ∀ r : List Str, r.reverse = z :: q.reverse → brackW (w :: r) = (40 :: w) :: (q ++ [z ++ [41]]) := fun r h => by
    show (match r.reverse with
      | [] => [40 :: w ++ [41]]
      | z :: q => (40 :: w) :: (q.reverse ++ [z ++ [41]])) = _
    rw [h]
    simp
  exact this _ (by simp)
theorem snoc_cases {α : Type} (r : List α) : r = [] ∨ ∃ q z, r = q ++ [z] := by
  cases hr : r.reverse with
  | nil => exact .inl (by simpa using hr)
  | cons z q => exact .inr ⟨q.reverse, z, by have := congrArg List.reverse hr; simpa using this⟩
theorem brack_ne {ws : List Str} (h : ws ≠ []) : brackW ws ≠ [] := by
  cases ws with
  | nil => exact absurd rfl h
  | cons w r =>
    rcases snoc_cases r with rfl | ⟨q, z, rfl⟩
    · rw [brack_one]; simp
    · rw [brack_more]; simp
theorem brack_join {ws : List Str} (h : ws ≠ []) : joinS [32] (brackW ws) = 40 :: (joinS [32] ws ++ [41]) := by
  cases ws with
  | nil => exact absurd rfl h
  | cons w r =>
    rcases snoc_cases r with rfl | ⟨q, z, rfl⟩
    · rw [brack_one]; rfl
    · rw [brack_more, join_cons (by simp), join_cons (by simp)]
      have hz : ∀ (q : List Str), joinS [32] (q ++ [z ++ [41]]) = joinS [32] (q ++ [z]) ++ [41] := fun q => by
        cases q with
        | nil => rfl
        | cons x q => rw [join_append (List.cons_ne_nil x q) (by simp), join_append (List.cons_ne_nil x q) (by simp)]; simp [joinS, List.append_assoc]
      rw [hz]
      simp [List.append_assoc]
theorem words_text {P : Int → Prop} : ∀ {e : Ex}, e.fine L.V P → joinS [32] (wordsE L e) = textE L e
  | .num l, h => rfl
  | .nam s, h => rfl
  | .mon i e, h => by
    show joinS [32] ((vstrS L i).1 :: wordsE L e) = _
    rw [join_cons (words_ne h.2), words_text h.2]
    rfl
  | .dy i a b, h => by
    have hne : (if a.plain then wordsE L a else brackW (wordsE L a)) ≠ [] := by
      have := words_ne h.2.1
      split
      · exact this
      · exact brack_ne this
    show joinS [32] (_ ++ ((vstrS L i).1 :: wordsE L b)) = _
    rw [join_append hne (by simp), join_cons (words_ne h.2.2), words_text h.2.2]
    have hl : joinS [32] (if a.plain then wordsE L a else brackW (wordsE L a)) = if a.plain then textE L a else 40 :: (textE L a ++ [41]) := by
      split
      · exact words_text h.2.1
      · rw [brack_join (words_ne h.2.1), words_text h.2.1]
    rw [hl]
    rfl
theorem post_len : ∀ e : Ex, (∀ {P : Int → Prop} {V : Voc}, e.fine V P → e.post.length ≤ e.len)
  | .num l, P, V, h => by
    have := h.1
    cases l with
    | nil => exact absurd rfl this
    | cons x l => simp [Ex.post, Ex.len]
  | .nam s, P, V, h => Nat.le_refl _
  | .mon i e, P, V, h => by
    have := post_len e h.2
    have h1 : 1 ≤ vlen i := by unfold vlen; split <;> omega
    simp only [Ex.post, Ex.len, List.length_append, List.length_cons, List.length_nil]
    omega
  | .dy i a b, P, V, h => by
    have h2 := post_len a h.2.1
    have h3 := post_len b h.2.2
    have h1 : 1 ≤ vlen i := by unfold vlen; split <;> omega
    simp only [Ex.post, Ex.len, List.length_append, List.length_cons, List.length_nil]
    omega
/-- an expression's text -/
theorem show_tree {P : Int → Prop} {e : Ex} (he : e.fine L.V P) {most : Nat} (hm : most ≤ 256) (hl : e.len ≤ most) (hn : e.nest ≤ 32) : showX L e.post most = some (textE L e) := by
  unfold showX
  have := post_len e he
  rw [if_neg (by omega)]
  have h := show_ex e [] [] he (by omega)
  rw [List.append_nil] at h
  rw [h]
  show (if most < e.len ∨ 32 < e.nest then none else some (joinS [32] (wordsE L e))) = _
  rw [if_neg (by omega), words_text he]
/-- what stands soft behind each token -/
def Soft (s : Str) : Prop := ∀ b, s.head? = some b → isNameB b = false ∧ isDigit b = false ∧ b ≠ 61
theorem soft_stop {t : Tk} {s : Str} (h : Soft s) : Stop t s := fun b hb => ⟨fun _ => (h b hb).1, fun _ => (h b hb).2.1, fun _ => (h b hb).2.2⟩
theorem soft_blank (s : Str) : Soft (32 :: s) := fun b h => by cases h; decide
theorem soft_close (s : Str) : Soft (41 :: s) := fun b h => by cases h; decide
theorem soft_line (s : Str) : Soft (10 :: s) := fun b h => by cases h; decide
theorem right_num {n : Int} (h : in64B n = true) : RightT (numT n) := .inr (.inl ⟨rfl, rfl, h⟩)
theorem laid_nums : ∀ (l : List Int) (s : Str) (q : List Tk), (∀ n ∈ l, in64B n = true) → l ≠ [] → Soft s → Laid s q → Laid (joinS [32] (l.map numStr) ++ s) (l.map numT ++ q)
  | [], s, q, _, h, _, _ => absurd rfl h
  | [n], s, q, h, _, hs, hq => .tok (right_num (h n List.mem_cons_self)) (soft_stop hs) hq
  | n :: m :: l, s, q, h, _, hs, hq => by
    have ih := laid_nums (m :: l) s q (fun x hx => h x (List.mem_cons_of_mem _ hx)) (by simp) hs hq
    show Laid (joinS [32] (numStr n :: (m :: l).map numStr) ++ s) _
    rw [join_cons (by simp), List.append_assoc]
    exact .tok (t := numT n) (right_num (h n List.mem_cons_self)) (stop_blank _ _) (.blank ih)
theorem laid_verb (R : SplR L) {two : Bool} {i : Itm} (h : VI L.V two i) {s : Str} {q : List Tk} (hq : Laid s q) : Laid ((vstrS L i).1 ++ (32 :: s)) (L.vtok i ++ q) := by
  obtain ⟨-, -, v3, -⟩ := vstr_facts h
  obtain ⟨w, q2, hw, hv⟩ := vtok_head h
  rw [v3]
  have hqq : q2 = [] ∨ ∃ b, q2 = [signT b] ∧ (b = 47 ∨ b = 92 ∨ b = 46) := by
    unfold Spl.vtok at hw
    split at hw
    · exact .inl (List.cons.inj hw).2.symm
    · split at hw
      · exact .inl (List.cons.inj hw).2.symm
      · refine .inr ⟨_, (List.cons.inj hw).2.symm, ?_⟩
        split
        · exact .inl rfl
        · split
          · exact .inr (.inl rfl)
          · exact .inr (.inr rfl)
  rw [hw]
  rcases hqq with rfl | ⟨b, rfl, hb⟩
  · simp only [List.map_cons, List.map_nil, List.flatten_cons, List.flatten_nil, List.append_nil]
    exact .tok (R.verb w hv) (stop_blank _ _) (.blank hq)
  · simp only [List.map_cons, List.map_nil, List.flatten_cons, List.flatten_nil, List.append_nil, List.append_assoc]
    have hsb : isSignB b = true ∧ isNameB b = false ∧ isDigit b = false ∧ b ≠ 61 := by rcases hb with rfl | rfl | rfl <;> decide
    refine .tok (R.verb w hv) (soft_stop fun c hc => ?_) (.tok (t := signT b) (.inr (.inr (.inl ⟨rfl, rfl, .inl ⟨b, rfl, hsb.1⟩⟩))) (stop_blank _ _) (.blank hq))
    cases hc
    exact hsb.2
theorem laid_ex (R : SplR L) : ∀ (e : Ex) (s : Str) (q : List Tk), e.fine L.V (fun n => in64B n = true) → Soft s → Laid s q → Laid (textE L e ++ s) (L.etok e ++ q)
  | .num l, s, q, he, hs, hq => laid_nums l s q he.2 he.1 hs hq
  | .nam n, s, q, he, hs, hq => .tok (t := nameT n) (R.name n he) (soft_stop hs) hq
  | .mon i e, s, q, he, hs, hq => by
    have ih := laid_ex R e s q he.2 hs hq
    have := laid_verb R he.1 ih
    rw [Spl.etok, List.append_assoc]
    simpa [textE, List.append_assoc] using this
  | .dy i a b, s, q, he, hs, hq => by
    have ihb := laid_ex R b s q he.2.2 hs hq
    have hv := Laid.blank (laid_verb R he.1 ihb)
    rw [Spl.etok, List.append_assoc, List.append_assoc]
    show Laid ((if a.plain then textE L a else 40 :: (textE L a ++ [41])) ++ (32 :: ((vstrS L i).1 ++ (32 :: textE L b))) ++ s) _
    by_cases hp : a.plain = true
    · rw [if_pos hp, if_pos hp]
      have := laid_ex R a _ _ he.2.1 (soft_blank _) hv
      simpa [List.append_assoc] using this
    · rw [if_neg hp, if_neg hp]
      have h1 : Laid (41 :: (32 :: ((vstrS L i).1 ++ (32 :: (textE L b ++ s))))) (signT 41 :: (L.vtok i ++ (L.etok b ++ q))) :=
        .tok (t := signT 41) (.inr (.inr (.inl ⟨rfl, rfl, .inl ⟨41, rfl, by decide⟩⟩))) (stop_blank _ _) hv
      have h2 := laid_ex R a _ _ he.2.1 (soft_close _) h1
      have hst : ∀ r, Stop (signT 40) r := fun r c hc => ⟨fun e => absurd e (show ¬ (3 : Int) = 1 by decide), fun e => absurd e (show ¬ (3 : Int) = 2 by decide), fun e => by rcases e with e | e <;> exact absurd e (by decide)⟩
      have h3 := Laid.tok (t := signT 40) (.inr (.inr (.inl ⟨rfl, rfl, .inl ⟨40, rfl, by decide⟩⟩))) (hst _) h2
      simpa [List.append_assoc, spellT, signT] using h3
end Go.Proofs.YtokghjnkfabgiaaGreatDoor

namespace Go.Proofs.YtokghjnkfabgiaaGreatDoor
set_option maxRecDepth 100000
open Go.Lib
set_option linter.unusedVariables false
set_option linter.unusedSimpArgs false

/-! Programs, read and shown: plain. -/
structure SidP where
  name : Str
  n : Int
structure InpP where
  name : Str
  sides : List SidP
structure LinP where
  name : Str
  items : List Itm
structure PrgP where
  inputs : List InpP
  lines : List LinP
def kwIn : Str := [105, 110]
def kwOut : Str := [111, 117, 116]
def sidesP (V : Voc) : List Tk → List SidP → Option (List SidP)
  | [], acc => some acc
  | t :: r, acc => if t.kind ≠ 2 ∧ (t.kind ≠ 1 ∨ V.name t.word = false) then none else if acc.length = 4 then none else sidesP V r (acc ++ [⟨t.word, t.n⟩])
def inputP (V : Voc) : List Tk → Option InpP
  | [] => none
  | t :: r => if t.kind ≠ 1 ∨ V.name t.word = false then none else (sidesP V r []).map fun s => ⟨t.word, s⟩
def isWord (t : Tk) (w : Str) : Bool := t.kind == 1 && decide (t.word = w)
def overP (p : PrgP) : Bool := match p.lines.getLast? with
  | some x => decide (x.name = [])
  | none => false
/-- a line into a program; t: its first token -/
def intoQ (V : Voc) (p : PrgP) (n : Nat) (over : Bool) (t : Tk) (r : List Tk) : Option PrgP :=
  if n = 64 then none
  else if 256 < r.length + 1 then none
  else if over = true ∨ (isWord t kwIn = true ∧ p.lines ≠ []) then none
  else if isWord t kwIn = true then (inputP V r).map fun x => ⟨p.inputs ++ [x], p.lines⟩
  else if isWord t kwOut = false ∧ (t.kind ≠ 1 ∨ V.name t.word = false) then none
  else if isWord t kwOut = true then (exprP V r).map fun l => ⟨p.inputs, p.lines ++ [⟨[], l⟩]⟩
  else if isSign (headT r) 58 = false then none
  else (exprP V r.tail).map fun l => ⟨p.inputs, p.lines ++ [⟨t.word, l⟩]⟩
def takeL : List Tk → List Tk × List Tk
  | [] => ([], [])
  | t :: r => if t.kind = 4 then ([], r) else (t :: (takeL r).1, (takeL r).2)
def parseK (V : Voc) : Nat → List Tk → PrgP → Nat → Option PrgP
  | 0, _, _, _ => none
  | _ + 1, [], p, _ => if overP p = true then some p else none
  | f + 1, u :: q, p, n => match takeL (u :: q) with
    | ([], r) => parseK V f r p n
    | (t :: l, r) => (intoQ V p n (overP p) t l).bind fun p' => parseK V f r p' (n + 1)
def parseP (V : Voc) (l : List Tk) : Option PrgP := parseK V (l.length + 1) l ⟨[], []⟩ 0
/-! what is read may be -/
def SideR (V : Voc) (d : SidP) : Prop := (d.name = [] ∧ in64B d.n = true) ∨ (V.name d.name = true ∧ d.n = 0)
def InpR (V : Voc) (x : InpP) : Prop := V.name x.name = true ∧ x.sides.length ≤ 4 ∧ ∀ d ∈ x.sides, SideR V d
def ItmR (V : Voc) (most : Nat) (l : List Itm) : Prop := ∃ e : Ex, l = e.post ∧ e.fine V (fun n => in64B n = true) ∧ e.len ≤ most ∧ e.nest ≤ 32
/-- a program whose lines so far are named, or the last one is out -/
structure PreR (V : Voc) (p : PrgP) (n : Nat) : Prop where
  inputs : ∀ x ∈ p.inputs, InpR V x
  named : ∀ x ∈ p.lines, V.name x.name = true ∧ ItmR V 254 x.items
  len : p.inputs.length + p.lines.length = n
  le : n ≤ 64
structure RightP (V : Voc) (p : PrgP) : Prop where
  inputs : ∀ x ∈ p.inputs, InpR V x
  lines : ∃ a l, p.lines = a ++ [⟨[], l⟩] ∧ (∀ x ∈ a, V.name x.name = true ∧ ItmR V 254 x.items) ∧ ItmR V 255 l
  le : p.inputs.length + p.lines.length ≤ 64
theorem sides_right {V : Voc} : ∀ (r : List Tk) (acc l : List SidP), sidesP V r acc = some l → (∀ t ∈ r, RightT t) → (∀ d ∈ acc, SideR V d) → acc.length ≤ 4 → l.length ≤ 4 ∧ ∀ d ∈ l, SideR V d
  | [], acc, l, h, _, ha, hl => by cases h; exact ⟨hl, ha⟩
  | t :: r, acc, l, h, hr, ha, hl => by
    rw [sidesP] at h
    by_cases h1 : t.kind ≠ 2 ∧ (t.kind ≠ 1 ∨ V.name t.word = false)
    · rw [if_pos h1] at h; cases h
    rw [if_neg h1] at h
    by_cases h4 : acc.length = 4
    · rw [if_pos h4] at h; cases h
    rw [if_neg h4] at h
    refine sides_right r _ l h (fun x hx => hr x (List.mem_cons_of_mem _ hx)) (fun d hd => ?_) (by simp; omega)
    rcases List.mem_append.1 hd with hd | hd
    · exact ha d hd
    · cases List.mem_singleton.1 hd
      have ht := hr t List.mem_cons_self
      by_cases h2 : t.kind = 2
      · rcases ht with ⟨hk, _⟩ | ⟨_, hw, hi⟩ | ⟨hk, _⟩ | hk
        · omega
        · exact .inl ⟨hw, hi⟩
        · omega
        · rw [hk] at h2; exact absurd h2 (by decide)
      · have h3 : t.kind = 1 ∧ V.name t.word = true := by
          refine ⟨?_, ?_⟩
          · exact Classical.byContradiction fun e => h1 ⟨h2, .inl e⟩
          · cases hv : V.name t.word with
            | true => rfl
            | false => exact absurd ⟨h2, .inr hv⟩ h1
        rcases ht with ⟨_, hn, _⟩ | ⟨hk, _⟩ | ⟨hk, _⟩ | hk
        · exact .inr ⟨h3.2, hn⟩
        · omega
        · omega
        · rw [hk] at h3; exact absurd h3.1 (by decide)
theorem over_named {V : Voc} (h0 : V.name [] = false) {p : PrgP} (h : ∀ x ∈ p.lines, V.name x.name = true ∧ ItmR V 254 x.items) : overP p = false := by
  unfold overP
  cases hg : p.lines.getLast? with
  | none => rfl
  | some x =>
    have := (h x (List.mem_of_getLast? hg)).1
    simp only [decide_eq_false_iff_not]
    intro e
    rw [e, h0] at this
    cases this
theorem over_out (i : List InpP) (a : List LinP) (l : List Itm) : overP ⟨i, a ++ [⟨[], l⟩]⟩ = true := by
  unfold overP
  simp
theorem into_right {V : Voc} (h0 : V.name [] = false) {p p' : PrgP} {n : Nat} {t : Tk} {r : List Tk} (h : intoQ V p n (overP p) t r = some p') (hp : PreR V p n) (hr : ∀ x ∈ r, RightT x) : PreR V p' (n + 1) ∨ RightP V p' := by
  have hnum : ∀ {q : List Tk}, (∀ x ∈ q, RightT x) → ∀ x ∈ q, x.kind = 2 → in64B x.n = true := fun hq x hx hk => by
    rcases hq x hx with ⟨h, _⟩ | ⟨_, _, h⟩ | ⟨h, _⟩ | h
    · omega
    · exact h
    · omega
    · rw [h] at hk; exact absurd hk (by decide)
  have hlen := hp.len
  have hle := hp.le
  unfold intoQ at h
  by_cases h1 : n = 64
  · rw [if_pos h1] at h; cases h
  rw [if_neg h1] at h
  by_cases h2 : 256 < r.length + 1
  · rw [if_pos h2] at h; cases h
  rw [if_neg h2] at h
  by_cases h3 : overP p = true ∨ (isWord t kwIn = true ∧ p.lines ≠ [])
  · rw [if_pos h3] at h; cases h
  rw [if_neg h3] at h
  by_cases h4 : isWord t kwIn = true
  · rw [if_pos h4] at h
    cases hi : inputP V r with
    | none => rw [hi] at h; cases h
    | some x =>
      rw [hi] at h
      cases h
      cases r with
      | nil => cases hi
      | cons u r =>
        change (if u.kind ≠ 1 ∨ V.name u.word = false then none else (sidesP V r []).map fun s => (⟨u.word, s⟩ : InpP)) = some x at hi
        by_cases h5 : u.kind ≠ 1 ∨ V.name u.word = false
        · rw [if_pos h5] at hi; cases hi
        rw [if_neg h5] at hi
        cases hs : sidesP V r [] with
        | none => rw [hs] at hi; cases hi
        | some l =>
          rw [hs] at hi
          cases hi
          obtain ⟨g1, g2⟩ := sides_right r [] l hs (fun x hx => hr x (List.mem_cons_of_mem _ hx)) (fun d hd => by cases hd) (by decide)
          refine .inl ⟨fun x hx => ?_, hp.named, ?_, by omega⟩
          · rcases List.mem_append.1 hx with hx | hx
            · exact hp.inputs x hx
            · cases List.mem_singleton.1 hx
              refine ⟨?_, g1, g2⟩
              cases hv : V.name u.word with
              | true => rfl
              | false => exact absurd (.inr hv) h5
          · simp only [List.length_append, List.length_cons, List.length_nil]
            omega
  rw [if_neg h4] at h
  by_cases h5 : isWord t kwOut = false ∧ (t.kind ≠ 1 ∨ V.name t.word = false)
  · rw [if_pos h5] at h; cases h
  rw [if_neg h5] at h
  by_cases h6 : isWord t kwOut = true
  · rw [if_pos h6] at h
    cases hx : exprP V r with
    | none => rw [hx] at h; cases h
    | some l =>
      rw [hx] at h
      cases h
      obtain ⟨e, e1, e2, e3, e4⟩ := expr_tree (P := fun n => in64B n = true) hx (hnum hr)
      refine .inr ⟨hp.inputs, ⟨p.lines, l, rfl, hp.named, e, e1, e2, by omega, e4⟩, ?_⟩
      simp only [List.length_append, List.length_cons, List.length_nil]
      omega
  rw [if_neg h6] at h
  by_cases h7 : isSign (headT r) 58 = false
  · rw [if_pos h7] at h; cases h
  rw [if_neg h7] at h
  cases hx : exprP V r.tail with
  | none => rw [hx] at h; cases h
  | some l =>
    rw [hx] at h
    cases h
    have hrt : ∀ x ∈ r.tail, RightT x := fun x hx => hr x (List.mem_of_mem_tail hx)
    obtain ⟨e, e1, e2, e3, e4⟩ := expr_tree (P := fun n => in64B n = true) hx (hnum hrt)
    have hrl : r.tail.length + 1 = r.length := by
      cases r with
      | nil => exact absurd (by decide) h7
      | cons u r => rfl
    have hv : V.name t.word = true := by
      cases hv : V.name t.word with
      | true => rfl
      | false => exact absurd ⟨by simpa using h6, .inr hv⟩ h5
    refine .inl ⟨hp.inputs, fun x hx => ?_, ?_, by omega⟩
    · rcases List.mem_append.1 hx with hx | hx
      · exact hp.named x hx
      · cases List.mem_singleton.1 hx
        exact ⟨hv, e, e1, e2, by omega, e4⟩
    · simp only [List.length_append, List.length_cons, List.length_nil]
      omega
theorem take_facts : ∀ l : List Tk, (takeL l).2.length ≤ l.length ∧ (l ≠ [] → (takeL l).2.length < l.length) ∧ (∀ x ∈ (takeL l).1, x ∈ l) ∧ ∀ x ∈ (takeL l).2, x ∈ l
  | [] => ⟨Nat.le_refl _, fun h => absurd rfl h, fun x h => h, fun x h => h⟩
  | t :: r => by
    obtain ⟨h1, -, h3, h4⟩ := take_facts r
    rw [takeL]
    by_cases hk : t.kind = 4
    · rw [if_pos hk]
      exact ⟨by simp, fun _ => by simp, fun x h => (by cases h), fun x h => List.mem_cons_of_mem _ h⟩
    · rw [if_neg hk]
      refine ⟨by simp; omega, fun _ => by simp; omega, fun x h => ?_, fun x h => List.mem_cons_of_mem _ (h4 x h)⟩
      rcases List.mem_cons.1 h with e | e
      · rw [e]; exact List.mem_cons_self
      · exact List.mem_cons_of_mem _ (h3 x e)
theorem parse_right {V : Voc} (h0 : V.name [] = false) : ∀ (f : Nat) (l : List Tk) (p p' : PrgP) (n : Nat), parseK V f l p n = some p' → (∀ x ∈ l, RightT x) → PreR V p n ∨ RightP V p → RightP V p'
  | 0, l, p, p', n, h, _, _ => by cases h
  | f + 1, [], p, p', n, h, _, hp => by
    rw [parseK] at h
    by_cases ho : overP p = true
    · rw [if_pos ho] at h
      cases h
      rcases hp with hp | hp
      · rw [over_named h0 hp.named] at ho; cases ho
      · exact hp
    · rw [if_neg ho] at h; cases h
  | f + 1, u :: q, p, p', n, h, hr, hp => by
    obtain ⟨-, -, h3, h4⟩ := take_facts (u :: q)
    rw [parseK] at h
    cases htk : takeL (u :: q) with
    | mk a r =>
      rw [htk] at h h3 h4
      cases a with
      | nil => exact parse_right h0 f r p p' n h (fun x hx => hr x (h4 x hx)) hp
      | cons t l =>
        dsimp only at h
        cases hi : intoQ V p n (overP p) t l with
        | none => rw [hi] at h; cases h
        | some p2 =>
          rw [hi] at h
          dsimp only [Option.bind] at h
          rcases hp with hp | hp
          · exact parse_right h0 f r p2 p' (n + 1) h (fun x hx => hr x (h4 x hx)) (into_right h0 hi hp (fun x hx => hr x (h3 x (List.mem_cons_of_mem _ hx))))
          · obtain ⟨a, l2, e, -⟩ := hp.lines
            have ho : overP p = true := by
              obtain ⟨i, ls⟩ := p
              dsimp only at e
              rw [e]
              exact over_out _ _ _
            rw [ho] at hi
            unfold intoQ at hi
            split at hi
            · cases hi
            · split at hi
              · cases hi
              · rw [if_pos (.inl rfl)] at hi; cases hi
end Go.Proofs.YtokghjnkfabgiaaGreatDoor
