import Derived.Test.YtabodlhlanolcaaA0
import Derived.Lib.BytesEntry
import Derived.Laws.Externs
import Derived.Deep.RegionHeld3
import Derived.Deep.DrawnRows
import Derived.Outline
import Derived.Deep.DeepCutAuto
import Derived.Deep.CutBlock
import Derived.Laws.Rows
import Derived.Laws.Tables
namespace Go.Proofs.Ytabodlhlanolcaa
set_option maxRecDepth 100000
open Go.RowKit
set_option linter.unusedVariables false
set_option linter.unusedSimpArgs false

/-- 1: the first stands ahead by its first greater number; -1: behind; 0: they are the same -/
def cmpI : List Int → List Int → Int
  | [], [] => 0
  | [], _ :: _ => -1
  | _ :: _, [] => 1
  | a :: xs, b :: ys => if a < b then -1 else if b < a then 1 else cmpI xs ys
theorem u8_lt {a b : Int} (ha : 0 ≤ a ∧ a ≤ 255) (hb : 0 ≤ b ∧ b ≤ 255) : (a.toNat.toUInt8 < b.toNat.toUInt8) = (a < b) := by
  obtain ⟨x, rfl⟩ := Int.eq_ofNat_of_zero_le ha.1
  obtain ⟨y, rfl⟩ := Int.eq_ofNat_of_zero_le hb.1
  rw [UInt8.lt_iff_toNat_lt]
  simp
  omega
theorem cmp_bytes : ∀ (xs ys : List Int), (∀ x ∈ xs, 0 ≤ x ∧ x ≤ 255) → (∀ y ∈ ys, 0 ≤ y ∧ y ≤ 255) → Lib.compareBytes (Lib.bytesOf xs) (Lib.bytesOf ys) = cmpI xs ys
  | [], [], _, _ => rfl
  | [], _ :: _, _, _ => rfl
  | _ :: _, [], _, _ => rfl
  | a :: xs, b :: ys, ha, hb => by
    have ih := cmp_bytes xs ys (fun x hx => ha x (List.mem_cons_of_mem _ hx)) (fun x hx => hb x (List.mem_cons_of_mem _ hx))
    have h0 := ha a (List.mem_cons_self ..)
    have h1 := hb b (List.mem_cons_self ..)
    show Lib.compareBytes (a.toNat.toUInt8 :: Lib.bytesOf xs) (b.toNat.toUInt8 :: Lib.bytesOf ys) = _
    unfold Lib.compareBytes cmpI
    rw [ih]
    simp only [u8_lt h0 h1, u8_lt h1 h0]
theorem cmpI_range : ∀ (xs ys : List Int), -1 ≤ cmpI xs ys ∧ cmpI xs ys ≤ 1
  | [], [] => by simp [cmpI]
  | [], _ :: _ => by simp [cmpI]
  | _ :: _, [] => by simp [cmpI]
  | a :: xs, b :: ys => by
    have ih := cmpI_range xs ys
    unfold cmpI
    split
    · omega
    · split
      · omega
      · exact ih
theorem cmpI_swap : ∀ (xs ys : List Int), cmpI xs ys = - cmpI ys xs
  | [], [] => rfl
  | [], _ :: _ => rfl
  | _ :: _, [] => rfl
  | a :: xs, b :: ys => by
    have ih := cmpI_swap xs ys
    unfold cmpI
    by_cases h1 : a < b
    · have h2 : ¬ b < a := by omega
      simp [h1, h2]
    · by_cases h2 : b < a
      · simp [h1, h2]
      · simp only [h1, h2, if_false]
        exact ih
/-- the entry of the library that compares bytes -/
theorem run_cmp {P : Program} (W : World) (b off n c b' off' n' c' : Nat) (xs ys : List Int) (hx : xs.length = n) (hy : ys.length = n') (hcx : ∀ j x, xs[j]? = some x → W.cell? ⟨b, off + j, none⟩ = some (.int .u8 x)) (hcy : ∀ j x, ys[j]? = some x → W.cell? ⟨b', off' + j, none⟩ = some (.int .u8 x))
    (wx : ∀ x ∈ xs, 0 ≤ x ∧ x ≤ 255) (wy : ∀ x ∈ ys, 0 ≤ x ∧ x ≤ 255) :
    (Extern.BytealgCompare.compare #[.slice (some ⟨b, off, none⟩) n c, .slice (some ⟨b', off', none⟩) n' c']).run P W = .ok (.int .i64 (cmpI xs ys)) W := by
  have adr : ∀ (b off j : Nat), (⟨b, off, none⟩ : Addr).add j = ⟨b, off + j, none⟩ := fun b off j => by unfold Addr.add; split <;> simp_all
  have hl := Lib.run_loadBytesX (P := P) W xs ⟨b, off, none⟩ .empty (fun j x hj => by rw [adr]; exact hcx j x hj)
  have hr := Lib.run_loadBytesX (P := P) W ys ⟨b', off', none⟩ .empty (fun j x hj => by rw [adr]; exact hcy j x hj)
  rw [hx] at hl
  rw [hy] at hr
  have he : ∀ zs, (⟨ByteArray.empty.data ++ (Lib.bytesOf zs).toArray⟩ : ByteArray) = ⟨(Lib.bytesOf zs).toArray⟩ := fun zs => by
    apply ByteArray.ext
    show (#[] : Array UInt8) ++ (Lib.bytesOf zs).toArray = (Lib.bytesOf zs).toArray
    simp
  rw [he] at hl hr
  change Sem.run P (do pure (goInt (Extern.BytealgCompare.cmp (← Extern.Bytes.bytesOf (.slice (some ⟨b, off, none⟩) n c)) (← Extern.Bytes.bytesOf (.slice (some ⟨b', off', none⟩) n' c'))))) W = _
  simp only [Extern.Bytes.bytesOf, Sem.run_bind, Sem.run_pure, hl, hr, Result.andThen]
  rw [Lib.cmp_eq]
  show Result.ok (Value.int .i64 (Lib.compareBytes (Lib.bytesOf xs) (Lib.bytesOf ys))) W = _
  rw [cmp_bytes xs ys wx wy]
theorem compare_any (W : World) (b off n c b' off' n' c' : Nat) (xs ys : List Int) (hx : xs.length = n) (hy : ys.length = n') (hcx : ∀ j x, xs[j]? = some x → W.cell? ⟨b, off + j, none⟩ = some (.int .u8 x)) (hcy : ∀ j x, ys[j]? = some x → W.cell? ⟨b', off' + j, none⟩ = some (.int .u8 x))
    (wx : ∀ x ∈ xs, 0 ≤ x ∧ x ≤ 255) (wy : ∀ x ∈ ys, 0 ≤ x ∧ x ≤ 255) :
    Calls Try.prog 87 #[.slice (some ⟨b, off, none⟩) n c, .slice (some ⟨b', off', none⟩) n' c'] W fun e w' => e = .returned (.int .i64 (cmpI xs ys)) ∧ ∃ k, w' = W.drewN k := by
  have hq := Lib.hid (run_cmp (P := Try.prog) W b off n c b' off' n' c' xs ys hx hy hcx hcy wx wy)
  clear hcx hcy wx wy hx hy
  go_enter Try.func87, Try.ntmps87
  go_wp2
  rw [run_callFunc_extern Try.func89 (by kernel_rfl) (by kernel_rfl) (by kernel_rfl) (e := Extern.BytealgCompare.compare) (by kernel_rfl), hq.out]
  simp only [Result.andThen]
  rw [Oper.upon_value]
  go_wp2
  go_ret
  exact ⟨rfl, 0, rfl⟩

def degF (m : Mono) : Int := m.e0 + m.e1 + m.e2 + m.e3 + m.e4 + m.e5
def smallB (m : Mono) : Bool := m.n != 0 && decide (m.n ≤ 16777216) && decide (-16777216 ≤ m.n) && decide (degF m ≤ 8)
/-- the sum of the first k exponents -/
def degK (m : Mono) : Nat → Int
  | 0 => 0
  | 1 => m.e0
  | 2 => m.e0 + m.e1
  | 3 => m.e0 + m.e1 + m.e2
  | 4 => m.e0 + m.e1 + m.e2 + m.e3
  | 5 => m.e0 + m.e1 + m.e2 + m.e3 + m.e4
  | _ => degF m
theorem mono_E {m : Mono} (h : m.wf) : ∀ x ∈ m.E, 0 ≤ x ∧ x ≤ 255 := by
  intro x hx
  simp [Mono.E] at hx
  rcases hx with rfl | rfl | rfl | rfl | rfl | rfl
  · exact h.e0
  · exact h.e1
  · exact h.e2
  · exact h.e3
  · exact h.e4
  · exact h.e5
end Go.Proofs.Ytabodlhlanolcaa
