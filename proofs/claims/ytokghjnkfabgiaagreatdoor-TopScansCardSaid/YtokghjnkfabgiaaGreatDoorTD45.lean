import Derived.Test.YtokghjnkfabgiaaGreatDoorTD44
import Derived.Test.YtokghjnkfabgiaaGreatDoorTD42
import Derived.Test.YtokghjnkfabgiaaGreatDoorTD30
import Derived.Lib.SmallJoins
set_option linter.unusedVariables false
set_option linter.unusedSimpArgs false
set_option maxRecDepth 100000
namespace Go.Proofs.YtokghjnkfabgiaaGreatDoor
open Go.ChangeShapes Go.WideShapes Go.ChangeAt Go.RowKit Go.Joins

section
variable {H : Type} {enc : TypeId × Value → H} {w : World} {base : Nat} {spare : Nat → Bool} {held : Bool}
theorem in64_of_wfM {x : Int} (h : (Lit.int .i64 x).wf = true) : In64 x := by
 unfold In64
 simpa [Lit.wf, IntKind.min, IntKind.max, IntKind.signed, IntKind.bits] using h
theorem sla_of_trodM {n : Nat} {v : Value} {y : DataW H × List MemPlace} (h : DataW.trod enc Tryz.prog w base spare held n 42 [v] = some y) : ∃ xs, SlA w v xs := by
 rcases open_ints Tryz.underlying42 Tryz.underlying2 (by kernel_rfl) h with ⟨hcs, _⟩ | ⟨a, l, c, zs, hcs, _, hl, hm, hz, _, hcell, hwz⟩
 ·simp at hcs
  subst hcs
  exact ⟨[], none, 0, rfl, Nat.le_refl _, Nat.zero_le _, fun _ => rfl, IntsAt.nil _ _ _, by simp⟩
 ·simp at hcs
  subst hcs
  have hlz : l ≤ zs.length := by rw [hz]; split <;> omega
  have hlen : (zs.take l).length = l := by simp [hlz]
  refine ⟨zs.take l, some a, c, by rw [hlen], by rw [hlen]; exact hl, hm, (fun e => by cases e), fun i hi => ?_, fun x hx => in64_of_wfM (hwz x (List.mem_of_mem_take hx))⟩
  rw [hlen] at hi
  obtain ⟨b, off, spot⟩ := a
  have hc0 := hcell i (by omega)
  have hspot : spot = none := by simpa [Addr.add] using World.cell?_spot (hcell 0 (by omega))
  subst hspot
  have e : (⟨b, off, none⟩ : Addr).add i = ⟨b, off + i, none⟩ := by unfold Addr.add; split <;> simp_all
  rw [e] at hc0
  refine ⟨b, off, rfl, ?_⟩
  rw [hc0, List.getElem_take, List.getD_eq_getElem?_getD, List.getElem?_eq_getElem (by omega)]
  rfl
theorem open_arrM {v : Value} {d : DataW H} {p : List MemPlace} {r : Reach} {b0 : Nat} (hv : Value.okWide Tryz.prog w r b0 44 v) (h : DataW.Trod enc Tryz.prog w base spare held 44 v d p) :
  ∃ s ds va vb, v = .agg #[va, vb] ∧ SlA w va s ∧ SlA w vb ds := by
 obtain ⟨va, vb, ya, yb, n, rfl, -, -, ta, tb⟩ := open_agg2 Tryz.underlying44 (by kernel_rfl) (by kernel_rfl) hv h
 obtain ⟨xs, hx⟩ := sla_of_trodM ta
 obtain ⟨ys, hy⟩ := sla_of_trodM tb
 exact ⟨xs, ys, va, vb, rfl, hx, hy⟩
theorem u8_of_wfM {x : Int} (h : (Lit.int .u8 x).wf = true) : 0 ≤ x ∧ x < 256 := by
 simp [Lit.wf, IntKind.has] at h
 have h1 : IntKind.u8.min = 0 := rfl
 have h2 : IntKind.u8.max = 255 := rfl
 omega
end
end Go.Proofs.YtokghjnkfabgiaaGreatDoor
