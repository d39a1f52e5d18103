import Derived.Test.YtmlfeocdcjhhaaaPH16
import Derived.Test.YtmlfeocdcjhhaaaPH21
namespace Go.Proofs.Ytmlfeocdcjhhaaa
set_option maxRecDepth 100000
open Go.RowKit
set_option linter.unusedVariables false
set_option linter.unusedSimpArgs false
attribute [local go_sem ↓] Go.wp_at_zero Go.wp_at_succ

theorem sl_elsR {α : Type} {R : Rep α} {w : World} {a : Option Addr} {n c : Nat} {l : List α} (h : R.Sl w (.slice a n c) l) : R.Els w a l ∧ n = l.length ∧ l.length ≤ 9223372036854775807 := by
  obtain ⟨a', c', e, h1, h2⟩ := Rep.Sl.form h
  simp only [Value.slice.injEq] at e
  obtain ⟨rfl, rfl, rfl⟩ := e
  exact ⟨h2, rfl, h1⟩
end Go.Proofs.Ytmlfeocdcjhhaaa

namespace Go.Proofs.Ytmlfeocdcjhhaaa
set_option maxRecDepth 100000
open Go.RowKit
set_option linter.unusedVariables false
set_option linter.unusedSimpArgs false
attribute [local go_sem ↓] Go.wp_at_zero Go.wp_at_succ

section
variable {w W W' : World} {z : Nat} {vars : Int} {vb vs vo : Value}
end
def CV (c : Cor) (vb vs vo : Value) : Value := .agg #[.int .i64 c.vars, vb, vs, vo]
end Go.Proofs.Ytmlfeocdcjhhaaa
