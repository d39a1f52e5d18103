import Derived.Test.YtiogopichcnihaaRows
import Derived.WalkKit
import Derived.ProofKit
import Derived.OpenShut
import Derived.Below
import Derived.WalkLawsBesides
import Derived.WalkSpells
import Derived.Lib.Hide
import Derived.Deep.QuietTactic
import Derived.BigQuiet
import Derived.Laws.CopyOwn
import Derived.RangeFuncBox
import Derived.Lib.SmallJoins
namespace Go.Proofs.Ytiogopichcnihaa
set_option maxRecDepth 100000
open Go.RowKit

theorem bcell {W w1 : World} {B : Nat} (hb : Below B W w1) : (∀ b o, b < B → w1.cell? ⟨b, o, none⟩ = W.cell? ⟨b, o, none⟩) ∧ (∀ b o, b < B → w1.frozen? ⟨b, o, none⟩ = W.frozen? ⟨b, o, none⟩) :=
  ⟨fun b o h => hb.cell (p := ⟨b, o, none⟩) h, fun b o h => hb.frozen (p := ⟨b, o, none⟩) h⟩

theorem ret_int {k : IntKind} {a b : Int} (h : a = b) : Ending.returned (.int k a) = .returned (.int k b) := by rw [h]
theorem ret_bool {a b : Bool} (h : a = b) : Ending.returned (.bool a) = .returned (.bool b) := by rw [h]

/-- A call of a function that has a body: it is entered. -/
theorem callFunc_enter {P : Program} {f : FuncId} {fn : Func} {c : Code} (hf : P.funcs[f]? = some fn) (hname : (fn.name == "runtime.NumGoroutine") = false) (hb : fn.body = some c) (args : Array Value) (w : World) :
    (callFunc f args).run P w = .ok (.enter f args) w := by
  have h1 : fn.name ≠ "runtime.NumGoroutine" := by simpa using hname
  simp [callFunc, hf, h1, hb]

theorem Below.drewN {B : Nat} (w : World) (n : Nat) : Below B w (w.drewN n) := ⟨rfl, rfl, rfl, Nat.le_refl _, fun _ _ => rfl⟩

/-- e has come back with the bool b, and nothing but draws has been done. -/
def SaysB (b : Bool) (w : World) (e : Ending) (w' : World) : Prop := e = .returned (.bool b) ∧ ∃ n, w' = w.drewN n
theorem SaysB.mk {b c : Bool} {w : World} {n : Nat} (h : b = c) : SaysB c w (.returned (.bool b)) (w.drewN n) := ⟨by rw [h], n, rfl⟩
theorem SaysB.mk0 {b c : Bool} {w : World} (h : b = c) : SaysB c w (.returned (.bool b)) w := ⟨by rw [h], 0, rfl⟩
theorem SaysB.drewN {b : Bool} {w w' : World} {e : Ending} {n : Nat} (h : SaysB b (w.drewN n) e w') : SaysB b w e w' := by
  obtain ⟨h1, m, h2⟩ := h
  exact ⟨h1, n + m, by rw [h2, World.drewN_drewN]⟩

def two (p : Int × Int) : Ending := .returned (.tuple #[.int .i64 p.1, .int .i64 p.2])
theorem ret_two {a b : Int} {p : Int × Int} (h : p = (a, b)) : Ending.returned (.tuple #[.int .i64 a, .int .i64 b]) = two p := by subst h; rfl


theorem bAfter {B : Nat} {w W W2 : World} (hB : Below B w W) (hs : B ≤ W.heap.size) (hb : Below W.heap.size W W2) : Below B w W2 := hB.trans (hb.mono hs)

theorem bNext {w W W2 : World} (hb : Below W.heap.size W W2) (hB : Below w.heap.size w W) : Below w.heap.size w W2 := hB.trans (hb.mono hB.size)
theorem own : ownKnob Try.prog.godebug = none := by kernel_rfl
theorem laidOut : laidOutB Try.prog = true := by kernel_rfl
end Go.Proofs.Ytiogopichcnihaa
