import Derived.Test.YtiogopichcnihaaIns
import Derived.Test.YtiogopichcnihaaSpec
namespace Go.Proofs.Ytiogopichcnihaa
set_option maxRecDepth 100000
set_option linter.unusedVariables false
set_option linter.unusedSimpArgs false

/-! Images, in plain lists; their bytes, and how bytes are read. -/
structure Slo where
  pos : Int
  sides : List Int
structure Img where
  dims : List Int
  mem : Int
  ins : List Slo
  outs : List Slo
  code : List Ins
theorem Slo.ext' {x y : Slo} (h0 : x.pos = y.pos) (h1 : x.sides = y.sides) : x = y := by cases x; cases y; simp_all
theorem Img.ext' {x y : Img} (h0 : x.dims = y.dims) (h1 : x.mem = y.mem) (h2 : x.ins = y.ins) (h3 : x.outs = y.outs) (h4 : x.code = y.code) : x = y := by cases x; cases y; simp_all
instance : DecidableEq Slo := fun x y => decidable_of_iff (x.pos = y.pos ∧ x.sides = y.sides) ⟨fun ⟨a, b⟩ => Slo.ext' a b, fun h => by subst h; exact ⟨rfl, rfl⟩⟩
instance : DecidableEq Img := fun x y => decidable_of_iff (x.dims = y.dims ∧ x.mem = y.mem ∧ x.ins = y.ins ∧ x.outs = y.outs ∧ x.code = y.code) ⟨fun ⟨a, b, c, d, e⟩ => Img.ext' a b c d e, fun h => by subst h; exact ⟨rfl, rfl, rfl, rfl, rfl⟩⟩

/-- a slot that is not within so many cells -/
def offB (mem : Int) (s : Slo) : Bool := (size s.sides).2 != 0 || decide (s.pos < 0) || decide (mem < s.pos) || decide (mem - s.pos < (size s.sides).1)
def imgSizes (m : Img) : Bool := decide (m.dims.length ≤ 6) && decide (0 ≤ m.mem) && decide (m.mem ≤ 2097152) && decide (m.ins.length ≤ 64) && decide (m.outs.length ≤ 64) && decide (m.code.length ≤ 32768)
def imgRight (m : Img) : Bool := imgSizes m && !m.dims.any badSide && !m.ins.any (offB m.mem) && !m.outs.any (offB m.mem) && !m.code.any (fun i => !i.right)

/-- a byte -/
def Byt (x : Int) : Prop := 0 ≤ x ∧ x ≤ 255
def Byts (l : List Int) : Prop := ∀ x ∈ l, Byt x

/-- a number's bytes -/
def numB (n : Nat) : List Int := if 127 < n then ((n % 128 + 128 : Nat) : Int) :: numB (n / 128) else [(n : Int)]
termination_by n
decreasing_by omega
def numI (n : Int) : List Int := numB n.toNat
/-- so many bytes of a number, the highest first -/
def highB (n : Nat) : Nat → List Int
  | 0 => []
  | k + 1 => ((n / 256 ^ k % 256 : Nat) : Int) :: highB n k
/-- the number of bytes -/
def wholeB (l : List Int) : Nat := l.foldl (fun n x => (n * 256 + x.toNat) % 18446744073709551616) 0
/-- the check of bytes -/
def checkB (l : List Int) : Nat := l.foldl (fun c x => (c * 31 + x.toNat) % 4294967296) 1
def slotB (s : Slo) : List Int := numI s.pos ++ numI s.sides.length ++ s.sides.flatMap numI
def slotsB (l : List Slo) : List Int := numI l.length ++ l.flatMap slotB
def immQ (i : Ins) : Nat := (i.imm % 4294967296).toNat
/-- an instruction's word -/
def encN (i : Ins) : Nat := i.op.toNat * 72057594037927936 + i.a.toNat * 281474976710656 + i.b.toNat * 1099511627776 + i.c.toNat * 4294967296 + immQ i
def insB (i : Ins) : List Int := highB (encN i) 8
def headB (m : Img) : List Int := [87, 82, 1] ++ numI m.dims.length ++ m.dims.flatMap numI ++ numI m.mem ++ slotsB m.ins ++ slotsB m.outs ++ numI m.code.length ++ m.code.flatMap insB
def writeB (m : Img) : List Int := headB m ++ highB (checkB (headB m)) 4

/-- a number read, from its part k on -/
def numGo (most : Int) : Nat → Nat → Nat → List Int → Option (Int × List Int)
  | 0, _, _, _ => none
  | _ + 1, _, _, [] => none
  | f + 1, k, n, x :: r =>
    if 127 < x then numGo most f (k + 1) (n + x.toNat % 128 * 128 ^ k) r
    else if most < ((n + x.toNat % 128 * 128 ^ k : Nat) : Int) ∨ (0 < k ∧ x = 0) then none else some (((n + x.toNat % 128 * 128 ^ k : Nat) : Int), r)
def numP (most : Int) (l : List Int) : Option (Int × List Int) := numGo most 9 0 0 l
/-- so many things, behind others -/
def manyA {α : Type} (p : List Int → Option (α × List Int)) : Nat → List α → List Int → Option (List α × List Int)
  | 0, acc, l => some (acc, l)
  | n + 1, acc, l => match p l with
    | none => none
    | some (x, r) => manyA p n (acc ++ [x]) r
def slotP (l : List Int) : Option (Slo × List Int) := match numP 2097152 l with
  | none => none
  | some (a, r) => match numP 4 r with
    | none => none
    | some (n, r) => match manyA (numP 65536) n.toNat [] r with
      | none => none
      | some (ss, r) => some (⟨a, ss⟩, r)
def slotsP (most : Int) (l : List Int) : Option (List Slo × List Int) := match numP most l with
  | none => none
  | some (n, r) => manyA slotP n.toNat [] r
/-- the instruction of a word -/
def decI (w : Nat) : Ins := ⟨((w / 72057594037927936 % 256 : Nat) : Int), ((w / 281474976710656 % 256 : Nat) : Int), ((w / 1099511627776 % 256 : Nat) : Int), ((w / 4294967296 % 256 : Nat) : Int),
  if 2147483648 ≤ w % 4294967296 then ((w % 4294967296 : Nat) : Int) - 4294967296 else ((w % 4294967296 : Nat) : Int)⟩
def insP (l : List Int) : Option (Ins × List Int) := if l.length < 8 then none else if (decI (wholeB (l.take 8))).right then some (decI (wholeB (l.take 8)), l.drop 8) else none
def imgP (l : List Int) : Option (Img × List Int) := if l.take 3 = [87, 82, 1] then
    match numP 6 (l.drop 3) with
    | none => none
    | some (n, r) => match manyA (numP 65536) n.toNat [] r with
      | none => none
      | some (dims, r) => match numP 2097152 r with
        | none => none
        | some (mem, r) => match slotsP 64 r with
          | none => none
          | some (ins, r) => match slotsP 64 r with
            | none => none
            | some (outs, r) => match numP 32768 r with
              | none => none
              | some (k, r) => match manyA insP k.toNat [] r with
                | none => none
                | some (code, r) => some (⟨dims, mem, ins, outs, code⟩, r)
  else none
def readB (b : List Int) : Option Img := match imgP b with
  | none => none
  | some (m, r) => if r.length = 4 ∧ wholeB r = checkB (b.take (b.length - 4)) ∧ imgRight m = true then some m else none

/-! What is written is read. -/
theorem numGo_numB (most : Int) : ∀ (f k a n : Nat) (r : List Int), n < 128 ^ f → 0 < f → ((a + n * 128 ^ k : Nat) : Int) ≤ most → (0 < k → 0 < n) → numGo most f k a (numB n ++ r) = some (((a + n * 128 ^ k : Nat) : Int), r) := by
  intro f
  induction f with
  | zero => intro k a n r _ h; omega
  | succ f ih =>
    intro k a n r hn _ hm hk
    rw [numB]
    by_cases h : 127 < n
    · rw [if_pos h, List.cons_append, numGo, if_pos (by omega)]
      have e1 : (((n % 128 + 128 : Nat) : Int)).toNat % 128 = n % 128 := by omega
      rw [e1]
      have e2 : a + n % 128 * 128 ^ k + n / 128 * 128 ^ (k + 1) = a + n * 128 ^ k := by
        rw [Nat.pow_succ, Nat.mul_comm (128 ^ k) 128, ← Nat.mul_assoc, Nat.add_assoc, ← Nat.add_mul]
        congr 2
        omega
      have hf : 0 < f := by
        rcases f with _ | f
        · rw [Nat.zero_add, Nat.pow_one] at hn; omega
        · omega
      have hlt : n / 128 < 128 ^ f := by
        rw [Nat.pow_succ] at hn
        exact Nat.div_lt_of_lt_mul (by rw [Nat.mul_comm]; exact hn)
      rw [ih (k + 1) (a + n % 128 * 128 ^ k) (n / 128) r hlt hf (by rw [e2]; exact hm) (by omega), e2]
    · rw [if_neg h, List.cons_append, List.nil_append, numGo, if_neg (by omega)]
      have e1 : ((n : Int)).toNat % 128 = n := by omega
      have e2 : ¬ (most < ((a + n * 128 ^ k : Nat) : Int) ∨ (0 < k ∧ (n : Int) = 0)) := by
        intro hh
        rcases hh with hh | ⟨h0, h1⟩
        · omega
        · have := hk h0; omega
      rw [e1, if_neg e2]
theorem numP_numI {most n : Int} (r : List Int) (h0 : 0 ≤ n) (hm : n ≤ most) (h63 : n ≤ 9223372036854775807) : numP most (numI n ++ r) = some (n, r) := by
  unfold numP numI
  have := numGo_numB most 9 0 0 n.toNat r (by rw [show (128 : Nat) ^ 9 = 9223372036854775808 from rfl]; omega) (by omega) (by rw [Nat.pow_zero, Nat.mul_one, Nat.zero_add]; omega) (by omega)
  rw [this, Nat.pow_zero, Nat.mul_one, Nat.zero_add, Int.toNat_of_nonneg h0]
theorem manyA_all {α : Type} {p : List Int → Option (α × List Int)} {e : α → List Int} : ∀ (xs acc : List α) (r : List Int), (∀ x ∈ xs, ∀ r, p (e x ++ r) = some (x, r)) → manyA p xs.length acc (xs.flatMap e ++ r) = some (acc ++ xs, r)
  | [], acc, r, _ => by simp [manyA]
  | x :: xs, acc, r, h => by
    rw [List.length_cons, manyA, List.flatMap_cons, List.append_assoc, h x (by simp)]
    show manyA p xs.length (acc ++ [x]) (xs.flatMap e ++ r) = _
    rw [manyA_all xs (acc ++ [x]) r (fun y hy => h y (by simp [hy]))]
    simp
/-! What is read is written. -/
theorem numGo_back (most : Int) : ∀ (f k a : Nat) (l r : List Int) (m : Int), Byts l → numGo most f k a l = some (m, r) → ∃ n : Nat, m = ((a + n * 128 ^ k : Nat) : Int) ∧ l = numB n ++ r ∧ (0 < k → 0 < n) ∧ m ≤ most
  | 0, k, a, l, r, m, _, h => by simp [numGo] at h
  | f + 1, k, a, [], r, m, _, h => by simp [numGo] at h
  | f + 1, k, a, x :: l, r, m, hb, h => by
    have hx : Byt x := hb x (by simp)
    rw [numGo] at h
    by_cases h1 : 127 < x
    · rw [if_pos h1] at h
      obtain ⟨n, e1, e2, e3, e4⟩ := numGo_back most f (k + 1) _ l r m (fun y hy => hb y (by simp [hy])) h
      have hn := e3 (by omega)
      refine ⟨x.toNat % 128 + 128 * n, ?_, ?_, fun _ => by omega, e4⟩
      · rw [e1]
        congr 1
        rw [Nat.pow_succ, Nat.add_assoc, Nat.add_mul, Nat.mul_comm (128 ^ k) 128, ← Nat.mul_assoc, Nat.mul_comm n 128]
      · have h2 : 127 < x.toNat % 128 + 128 * n := by omega
        rw [numB, if_pos h2, e2, List.cons_append]
        have h3 := hx.1; have h4 := hx.2
        congr 1
        · omega
        · congr 2; omega
    · rw [if_neg h1] at h
      split at h
      · cases h
      · rename_i h2
        have h2' := not_or.1 h2
        simp only [Option.some.injEq, Prod.mk.injEq] at h
        obtain ⟨rfl, rfl⟩ := h
        have h3 := hx.1; have h4 := hx.2
        have e1 : x.toNat % 128 = x.toNat := by omega
        refine ⟨x.toNat, by rw [e1], ?_, fun hk => ?_, by omega⟩
        · rw [numB, if_neg (by omega)]; simp; omega
        · have := h2'.2; omega
theorem numP_back {most m : Int} {l r : List Int} (hb : Byts l) (h : numP most l = some (m, r)) : l = numI m ++ r ∧ 0 ≤ m ∧ m ≤ most := by
  obtain ⟨n, e1, e2, _, e4⟩ := numGo_back most 9 0 0 l r m hb h
  rw [Nat.pow_zero, Nat.mul_one, Nat.zero_add] at e1
  subst e1
  exact ⟨e2, by omega, e4⟩
theorem Byts.left {a b : List Int} (h : Byts (a ++ b)) : Byts a := fun x hx => h x (by simp [hx])
theorem Byts.right {a b : List Int} (h : Byts (a ++ b)) : Byts b := fun x hx => h x (by simp [hx])
theorem manyA_back {α : Type} {p : List Int → Option (α × List Int)} {e : α → List Int} {q : α → Prop} (hp : ∀ l x r, Byts l → p l = some (x, r) → l = e x ++ r ∧ q x) :
    ∀ (n : Nat) (acc ys : List α) (l r : List Int), Byts l → manyA p n acc l = some (ys, r) → ∃ xs, ys = acc ++ xs ∧ xs.length = n ∧ l = xs.flatMap e ++ r ∧ ∀ x ∈ xs, q x
  | 0, acc, ys, l, r, hb, h => by
    simp only [manyA, Option.some.injEq, Prod.mk.injEq] at h
    obtain ⟨rfl, rfl⟩ := h
    exact ⟨[], by simp, rfl, by simp, by simp⟩
  | n + 1, acc, ys, l, r, hb, h => by
    rw [manyA] at h
    split at h
    · cases h
    · rename_i x l' hx
      obtain ⟨e1, q1⟩ := hp _ _ _ hb hx
      subst e1
      obtain ⟨xs, e2, e3, e4, q2⟩ := manyA_back hp n (acc ++ [x]) ys l' r hb.right h
      refine ⟨x :: xs, by rw [e2]; simp, by simp [e3], by rw [e4]; simp, ?_⟩
      intro y hy
      rcases List.mem_cons.1 hy with rfl | hy
      · exact q1
      · exact q2 y hy
theorem slotP_back {l r : List Int} {s : Slo} (hb : Byts l) (h : slotP l = some (s, r)) : l = slotB s ++ r ∧ 0 ≤ s.pos := by
  unfold slotP at h
  split at h
  · cases h
  · rename_i a r1 h1
    obtain ⟨e1, p1, _⟩ := numP_back hb h1
    subst e1
    split at h
    · cases h
    · rename_i n r2 h2
      obtain ⟨e2, p2, _⟩ := numP_back hb.right h2
      subst e2
      split at h
      · cases h
      · rename_i ss r3 h3
        obtain ⟨xs, e3, e4, e5, _⟩ := manyA_back (e := numI) (q := fun _ => True) (fun l x r hb h => ⟨(numP_back hb h).1, trivial⟩) _ _ _ _ _ hb.right.right h3
        simp only [Option.some.injEq, Prod.mk.injEq] at h
        obtain ⟨rfl, rfl⟩ := h
        rw [List.nil_append] at e3
        subst e3
        refine ⟨?_, p1⟩
        unfold slotB
        rw [e5, show ((ss.length : Nat) : Int) = n from by omega]
        simp
theorem slotsP_back {most : Int} {l r : List Int} {ss : List Slo} (hb : Byts l) (h : slotsP most l = some (ss, r)) : l = slotsB ss ++ r := by
  unfold slotsP at h
  split at h
  · cases h
  · rename_i n r1 h1
    obtain ⟨e1, p1, _⟩ := numP_back hb h1
    subst e1
    obtain ⟨xs, e3, e4, e5, _⟩ := manyA_back (e := slotB) (q := fun _ => True) (fun l x r hb h => ⟨(slotP_back hb h).1, trivial⟩) _ _ _ _ _ hb.right h
    rw [List.nil_append] at e3
    subst e3
    unfold slotsB
    rw [e5, show ((ss.length : Nat) : Int) = n from by omega]
    simp
theorem highB_len (n : Nat) : ∀ k, (highB n k).length = k
  | 0 => rfl
  | k + 1 => by rw [highB, List.length_cons, highB_len n k]
theorem highB_byts (n : Nat) : ∀ k, Byts (highB n k)
  | 0, x, h => by cases h
  | k + 1, x, h => by
    rw [highB] at h
    rcases List.mem_cons.1 h with rfl | h
    · unfold Byt; omega
    · exact highB_byts n k x h
/-- the number of bytes behind another, as it is -/
def runB (n : Nat) (l : List Int) : Nat := l.foldl (fun n x => n * 256 + x.toNat) n
theorem runB_div : ∀ (l : List Int) (n : Nat), Byts l → runB n l / 256 ^ l.length = n
  | [], n, _ => by simp [runB]
  | x :: l, n, h => by
    have h1 := h x (by simp)
    have h2 := runB_div l (n * 256 + x.toNat) (fun y hy => h y (by simp [hy]))
    show runB (n * 256 + x.toNat) l / 256 ^ (l.length + 1) = n
    rw [Nat.pow_succ, ← Nat.div_div_eq_div_mul, h2]
    unfold Byt at h1
    omega
theorem runB_ge : ∀ (l : List Int) (n : Nat), n ≤ runB n l
  | [], n => Nat.le_refl _
  | x :: l, n => Nat.le_trans (by omega) (runB_ge l (n * 256 + x.toNat))
theorem run_mod (M : Nat) : ∀ (l : List Int) (n : Nat), runB n l < M → l.foldl (fun n x => (n * 256 + x.toNat) % M) n = runB n l
  | [], n, _ => rfl
  | x :: l, n, h => by
    have h1 := runB_ge l (n * 256 + x.toNat)
    have h2 : runB n (x :: l) = runB (n * 256 + x.toNat) l := rfl
    rw [List.foldl_cons, Nat.mod_eq_of_lt (by omega), h2]
    exact run_mod M l _ (by omega)
theorem runB_lt {l : List Int} (h : Byts l) : runB 0 l < 256 ^ l.length := by
  have h1 := runB_div l 0 h
  rcases Nat.div_eq_zero_iff.1 h1 with h2 | h2
  · have := Nat.pow_pos (n := l.length) (show 0 < 256 by omega); omega
  · exact h2
theorem wholeB_run {l : List Int} (h : Byts l) (hl : l.length ≤ 8) : wholeB l = runB 0 l ∧ wholeB l < 18446744073709551616 := by
  have h1 := runB_lt h
  have h2 : 256 ^ l.length ≤ 256 ^ 8 := Nat.pow_le_pow_right (by omega) hl
  have h3 : (256 : Nat) ^ 8 = 18446744073709551616 := rfl
  have h4 : runB 0 l < 18446744073709551616 := by omega
  have h5 : wholeB l = runB 0 l := run_mod _ l 0 h4
  exact ⟨h5, h5 ▸ h4⟩
theorem highB_run : ∀ (l : List Int) (n : Nat), Byts l → highB (runB n l) l.length = l
  | [], n, _ => rfl
  | x :: l, n, h => by
    have h1 := h x (by simp)
    have hl : Byts l := fun y hy => h y (by simp [hy])
    show highB (runB (n * 256 + x.toNat) l) (l.length + 1) = _
    rw [highB, runB_div l _ hl, highB_run l _ hl]
    congr 1
    unfold Byt at h1
    omega
theorem run_high (n : Nat) : ∀ k, runB (n / 256 ^ k) (highB n k) = n
  | 0 => by simp [highB, runB]
  | k + 1 => by
    have h2 := run_high n k
    show runB (n / 256 ^ (k + 1) * 256 + (((n / 256 ^ k % 256 : Nat) : Int)).toNat) (highB n k) = n
    have e : n / 256 ^ (k + 1) * 256 + (((n / 256 ^ k % 256 : Nat) : Int)).toNat = n / 256 ^ k := by
      rw [Nat.pow_succ, ← Nat.div_div_eq_div_mul]
      omega
    rw [e, h2]
theorem whole_high8 {n : Nat} (h : n < 18446744073709551616) : wholeB (highB n 8) = n := by
  rw [(wholeB_run (highB_byts n 8) (by rw [highB_len]; omega)).1]
  have h1 := run_high n 8
  rw [Nat.div_eq_of_lt (show n < 256 ^ 8 from h)] at h1
  exact h1
theorem whole_high4 {n : Nat} (h : n < 4294967296) : wholeB (highB n 4) = n := by
  rw [(wholeB_run (highB_byts n 4) (by rw [highB_len]; omega)).1]
  have h1 := run_high n 4
  rw [Nat.div_eq_of_lt (show n < 256 ^ 4 from h)] at h1
  exact h1
theorem high_whole8 {l : List Int} (hb : Byts l) (h : l.length = 8) : highB (wholeB l) 8 = l ∧ wholeB l < 18446744073709551616 := by
  obtain ⟨h1, h2⟩ := wholeB_run hb (by omega)
  refine ⟨?_, h2⟩
  rw [h1, ← h, highB_run l 0 hb]
theorem high_whole4 {l : List Int} (hb : Byts l) (h : l.length = 4) : highB (wholeB l) 4 = l := by
  obtain ⟨h1, h2⟩ := wholeB_run hb (by omega)
  rw [h1, ← h, highB_run l 0 hb]
theorem immQ_lt (i : Ins) : immQ i < 4294967296 := by unfold immQ; omega
theorem encN_lt {i : Ins} (h : i.wf) : encN i < 18446744073709551616 := by
  obtain ⟨h0, h1, h2, h3, h4⟩ := h
  have := immQ_lt i
  unfold encN
  omega
theorem decI_enc {i : Ins} (h : i.wf) : decI (encN i) = i := by
  obtain ⟨h0, h1, h2, h3, h4⟩ := h
  have h5 := immQ_lt i
  have h6 : (immQ i : Int) = i.imm % 4294967296 := by unfold immQ; omega
  unfold decI encN
  refine Ins.ext' ?_ ?_ ?_ ?_ ?_ <;> dsimp only
  · omega
  · omega
  · omega
  · omega
  · split <;> omega
theorem encN_dec {w : Nat} (h : w < 18446744073709551616) : encN (decI w) = w := by
  have h5 : immQ (decI w) = w % 4294967296 := by
    unfold immQ decI
    dsimp only
    split <;> omega
  unfold encN
  rw [h5]
  unfold decI
  dsimp only
  omega
theorem decI_wf (w : Nat) : (decI w).wf := by
  unfold decI
  refine ⟨?_, ?_, ?_, ?_, ?_⟩ <;> dsimp only
  · omega
  · omega
  · omega
  · omega
  · split <;> omega
theorem insP_insB {i : Ins} (h : i.wf) (hr : i.right = true) (r : List Int) : insP (insB i ++ r) = some (i, r) := by
  have hl : (insB i).length = 8 := highB_len _ 8
  unfold insP
  rw [if_neg (by rw [List.length_append, hl]; omega)]
  have e1 : (insB i ++ r).take 8 = insB i := by rw [← hl, List.take_left]
  have e2 : (insB i ++ r).drop 8 = r := by rw [← hl, List.drop_left]
  rw [e1, e2]
  have e3 : decI (wholeB (insB i)) = i := by unfold insB; rw [whole_high8 (encN_lt h), decI_enc h]
  rw [e3, if_pos hr]
theorem insP_back {l r : List Int} {i : Ins} (hb : Byts l) (h : insP l = some (i, r)) : l = insB i ++ r ∧ (i.right = true ∧ i.wf) := by
  unfold insP at h
  split at h
  · cases h
  · split at h
    · rename_i h1 h2
      simp only [Option.some.injEq, Prod.mk.injEq] at h
      obtain ⟨rfl, rfl⟩ := h
      have hl : (l.take 8).length = 8 := by rw [List.length_take]; omega
      obtain ⟨e1, e2⟩ := high_whole8 (l := l.take 8) (fun x hx => hb x (List.mem_of_mem_take hx)) hl
      refine ⟨?_, h2, decI_wf _⟩
      unfold insB
      rw [encN_dec e2, e1, List.take_append_drop]
    · cases h
theorem imgP_back {l r : List Int} {m : Img} (hb : Byts l) (h : imgP l = some (m, r)) : l = headB m ++ r ∧ ∀ i ∈ m.code, i.wf := by
  unfold imgP at h
  split at h
  · rename_i h0
    have hl : l = [87, 82, 1] ++ l.drop 3 := by rw [← h0, List.take_append_drop]
    generalize l.drop 3 = l1 at h hl
    subst hl
    have hb1 := hb.right
    split at h
    · cases h
    · rename_i n r1 h1
      obtain ⟨e1, p1, _⟩ := numP_back hb1 h1
      subst e1
      split at h
      · cases h
      · rename_i dims r2 h2
        obtain ⟨xs, e2, e3, e4, _⟩ := manyA_back (e := numI) (q := fun _ => True) (fun l x r hb h => ⟨(numP_back hb h).1, trivial⟩) _ _ _ _ _ hb1.right h2
        rw [List.nil_append] at e2
        subst e2
        subst e4
        split at h
        · cases h
        · rename_i mem r3 h3
          obtain ⟨e5, p5, _⟩ := numP_back hb1.right.right h3
          subst e5
          split at h
          · cases h
          · rename_i ins r4 h4
            have e6 := slotsP_back hb1.right.right.right h4
            subst e6
            split at h
            · cases h
            · rename_i outs r5 h5
              have e7 := slotsP_back hb1.right.right.right.right h5
              subst e7
              split at h
              · cases h
              · rename_i k r6 h6
                obtain ⟨e8, p8, _⟩ := numP_back hb1.right.right.right.right.right h6
                subst e8
                split at h
                · cases h
                · rename_i code r7 h7
                  obtain ⟨ys, e9, e10, e11, q⟩ := manyA_back (e := insB) (q := fun i => i.right = true ∧ i.wf) (fun l x r hb h => insP_back hb h) _ _ _ _ _ hb1.right.right.right.right.right.right h7
                  rw [List.nil_append] at e9
                  subst e9
                  simp only [Option.some.injEq, Prod.mk.injEq] at h
                  obtain ⟨rfl, rfl⟩ := h
                  refine ⟨?_, fun i hi => (q i hi).2⟩
                  unfold headB
                  dsimp only
                  rw [e11, show ((dims.length : Nat) : Int) = n from by omega, show ((code.length : Nat) : Int) = k from by omega]
                  simp
  · cases h
theorem checkB_lt (l : List Int) : checkB l < 4294967296 := by
  unfold checkB
  have : ∀ (l : List Int) (c : Nat), c < 4294967296 → l.foldl (fun c x => (c * 31 + x.toNat) % 4294967296) c < 4294967296 := by
    intro l
    induction l with
    | nil => intro c h; exact h
    | cons x l ih => intro c h; exact ih _ (Nat.mod_lt _ (by omega))
  exact this l 1 (by omega)
/-- what is read is written so -/
theorem read_back {b : List Int} {m : Img} (hb : Byts b) (h : readB b = some m) : writeB m = b ∧ imgRight m = true ∧ ∀ i ∈ m.code, i.wf := by
  unfold readB at h
  split at h
  · cases h
  · rename_i m' r h1
    split at h
    · rename_i h2
      obtain ⟨h3, h4, h5⟩ := h2
      cases h
      obtain ⟨e1, e2⟩ := imgP_back hb h1
      subst e1
      have hd : (headB m ++ r).take ((headB m ++ r).length - 4) = headB m := by
        rw [List.length_append, h3, Nat.add_sub_cancel, List.take_left]
      rw [hd] at h4
      refine ⟨?_, h5, e2⟩
      unfold writeB
      rw [← h4, high_whole4 hb.right h3]
    · cases h
theorem badSide_ok {x : Int} (h : badSide x = false) : 0 ≤ x ∧ x ≤ 65536 := badSide_false h
theorem size_sides {l : List Int} (h : (size l).2 = 0) : l.length ≤ 4 ∧ ∀ x ∈ l, 0 ≤ x ∧ x ≤ 65536 := by
  unfold size at h
  split at h
  · simp at h
  · split at h
    · simp at h
    · rename_i h1 h2
      refine ⟨by omega, fun x hx => badSide_false ?_⟩
      rw [List.any_eq_true] at h2
      cases hb : badSide x with
      | false => rfl
      | true => exact absurd ⟨x, hx, hb⟩ h2
theorem slotP_slotB {mem : Int} {s : Slo} (hm : mem ≤ 2097152) (h : offB mem s = false) (r : List Int) : slotP (slotB s ++ r) = some (s, r) := by
  unfold offB at h
  simp only [Bool.or_eq_false_iff, bne_eq_false_iff_eq, decide_eq_false_iff_not] at h
  obtain ⟨⟨⟨h1, h2⟩, h3⟩, h4⟩ := h
  obtain ⟨h5, h6⟩ := size_sides h1
  unfold slotP slotB
  rw [List.append_assoc, List.append_assoc, numP_numI _ (by omega) (by omega) (by omega)]
  dsimp only
  rw [numP_numI _ (by omega) (by omega) (by omega)]
  dsimp only
  rw [Int.toNat_natCast, manyA_all s.sides [] r (fun x hx r => numP_numI r (h6 x hx).1 (h6 x hx).2 (by have := h6 x hx; omega))]
  dsimp only
  rw [List.nil_append]
theorem slotsP_slotsB {mem : Int} {l : List Slo} (hm : mem ≤ 2097152) (hl : l.length ≤ 64) (h : l.any (offB mem) = false) (r : List Int) : slotsP 64 (slotsB l ++ r) = some (l, r) := by
  unfold slotsP slotsB
  rw [List.append_assoc, numP_numI _ (by omega) (by omega) (by omega)]
  dsimp only
  rw [Int.toNat_natCast, manyA_all l [] r (fun x hx r => slotP_slotB hm (by
    cases hb : offB mem x with
    | false => rfl
    | true => rw [List.any_eq_false] at h; exact absurd hb (h x hx)) r), List.nil_append]
/-- what is written is read as the same -/
theorem write_back {m : Img} (h : imgRight m = true) (hw : ∀ i ∈ m.code, i.wf) : readB (writeB m) = some m := by
  have hr := h
  unfold imgRight imgSizes at h
  simp only [Bool.and_eq_true, decide_eq_true_eq, Bool.not_eq_true'] at h
  obtain ⟨⟨⟨⟨⟨⟨⟨⟨⟨h1, h2⟩, h3⟩, h4⟩, h5⟩, h6⟩, h7⟩, h8⟩, h9⟩, h10⟩ := h
  have hp : ∀ r, imgP (headB m ++ r) = some (m, r) := by
    intro r
    unfold imgP headB
    have e0 : ([87, 82, 1] ++ numI m.dims.length ++ m.dims.flatMap numI ++ numI m.mem ++ slotsB m.ins ++ slotsB m.outs ++ numI m.code.length ++ m.code.flatMap insB ++ r) =
        [87, 82, 1] ++ (numI m.dims.length ++ (m.dims.flatMap numI ++ (numI m.mem ++ (slotsB m.ins ++ (slotsB m.outs ++ (numI m.code.length ++ (m.code.flatMap insB ++ r))))))) := by simp
    rw [e0]
    rw [if_pos (by simp)]
    have e1 : ∀ x : List Int, ([87, 82, 1] ++ x).drop 3 = x := fun x => rfl
    rw [e1, numP_numI _ (by omega) (by omega) (by omega)]
    dsimp only
    have hd : ∀ x ∈ m.dims, 0 ≤ x ∧ x ≤ 65536 := fun x hx => badSide_false (by
      cases hb : badSide x with
      | false => rfl
      | true => rw [List.any_eq_false] at h7; exact absurd hb (h7 x hx))
    rw [Int.toNat_natCast, manyA_all m.dims [] _ (fun x hx r => numP_numI r (hd x hx).1 (hd x hx).2 (by have := hd x hx; omega))]
    dsimp only
    rw [List.nil_append, numP_numI _ (by omega) (by omega) (by omega)]
    dsimp only
    rw [slotsP_slotsB h3 h4 h8]
    dsimp only
    rw [slotsP_slotsB h3 h5 h9]
    dsimp only
    rw [numP_numI _ (by omega) (by omega) (by omega)]
    dsimp only
    rw [Int.toNat_natCast, manyA_all m.code [] _ (fun x hx r => insP_insB (hw x hx) (by
      rw [List.any_eq_false] at h10
      have := h10 x hx
      simpa using this) r)]
    dsimp only
    rw [List.nil_append]
  unfold readB writeB
  rw [hp]
  dsimp only
  have hl := highB_len (checkB (headB m)) 4
  have e2 : (headB m ++ highB (checkB (headB m)) 4).take ((headB m ++ highB (checkB (headB m)) 4).length - 4) = headB m := by
    rw [List.length_append, hl, Nat.add_sub_cancel, List.take_left]
  rw [e2, if_pos ⟨hl, whole_high4 (checkB_lt _), hr⟩]
end Go.Proofs.Ytiogopichcnihaa
