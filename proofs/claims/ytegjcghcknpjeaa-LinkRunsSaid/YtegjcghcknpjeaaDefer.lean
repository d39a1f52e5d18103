import Derived.Test.YtegjcghcknpjeaaBase0
import Derived.Defers
namespace Go.Proofs.Ytegjcghcknpjeaa
open Go.RowKit

/-- A builtin that was deferred is done. -/
theorem step_defer_builtin {P : Program} {fr : Frame} {cs : List Frame} {w w' : World} {d : Deferred} {ds : List Deferred} {b : Builtin} {ats : Array TypeId} {ty : TypeId} {k : Array Bool} {v : Value}
    (hm : fr.mode ≠ .run) (hd : fr.defers = d :: ds) (ht : d.target = .builtin b ats ty k) (hi : (invoke d.target d.args).run P w = .ok (.value v) w') :
    step P (lone fr cs w) = .next (lone { fr with defers := ds } cs w') := by
  obtain ⟨t, a⟩ := d
  simp only at ht hi
  subst ht
  refine step_lone_go ?_
  cases hmode : fr.mode with
  | run => exact absurd hmode hm
  | returning => simp [stepG, unwind, callDeferred, hmode, hd, hi]
  | panicking chain => simp [stepG, unwind, callDeferred, hmode, hd, hi]

/-- The end of a body that may have deferred one builtin. -/
def EndB (P : Program) (fn : Func) (R : Ending → World → Prop) (a : Act) (w : World) : Prop :=
  (a.defers = [] ∧ ∃ v, (results fn a.tmps).run P w = .ok v w ∧ R (.returned v) w) ∨
  ∃ d b ats ty k u w1 v, a.defers = [d] ∧ d.target = .builtin b ats ty k ∧ (invoke d.target d.args).run P w = .ok (.value u) w1 ∧ (results fn a.tmps).run P w1 = .ok v w1 ∧ R (.returned v) w1
def bodyPostB (P : Program) (fn : Func) (R : Ending → World → Prop) : Exit → Act → World → Prop
  | .normal, a, w | .ret, a, w => EndB P fn R a w
  | _, _, _ => False

theorem postB_ret {P : Program} {fn : Func} {R : Ending → World → Prop} {a : Act} {w : World} (h : EndB P fn R a w) : bodyPostB P fn R .ret a w := h
theorem calls_of_wp_builtin {P : Program} {f : FuncId} {fn : Func} {c : Code} {args : Array Value} {w : World} {R : Ending → World → Prop} (hf : P.funcs[f]? = some fn) (hb : fn.body = some c)
    (h : c.wp P (bodyPostB P fn R) { tmps := args ++ Array.replicate (fn.ntmps - args.size) undef, defers := [] } w) : Calls P f args w R := by
  intro cs
  let b : Frame := { (default : Frame) with fn := f, kind := .normal }
  have henter : Frame.enter P f args .normal = b.at { tmps := args ++ Array.replicate (fn.ntmps - args.size) undef, defers := [] } [.code c] := by
    simp [Frame.enter, Frame.at, hf, hb, b]
  obtain ⟨e, a', w', hq, harr⟩ := h b [] cs
  rw [← henter] at harr
  have key : ∀ todo, Steps P (lone (Frame.enter P f args .normal) cs w) (lone { b.at a' todo with mode := .returning } cs w') → EndB P fn R a' w' →
      ∃ e w' fr, R e w' ∧ Comes P (lone (Frame.enter P f args CallKind.normal) cs w) (lone fr cs w') e ∧ fr.fn = f ∧ Frame.leaving P fr w' e := fun todo hs₀ hE => by
    rcases hE with ⟨hd, v, hr, hR⟩ | ⟨d, bi, ats, ty, k, u, w1, v, hd, ht, hi, hr, hR⟩
    · obtain ⟨e', w'', fr', hR', hs, hfn, hl⟩ := leaves_steps (R := R) [] .returning w' { b.at a' todo with mode := .returning } cs rfl hd rfl hf rfl ⟨v, hr, hR⟩
      exact ⟨e', w'', fr', hR', Comes.of_steps hs₀ hs, hfn, hl⟩
    · have h1 := step_defer_builtin (P := P) (fr := { b.at a' todo with mode := .returning }) (cs := cs) (by simp) hd ht hi
      obtain ⟨e', w'', fr', hR', hs, hfn, hl⟩ := leaves_steps (R := R) [] .returning w1 { { b.at a' todo with mode := .returning } with defers := [] } cs rfl rfl rfl hf rfl ⟨v, hr, hR⟩
      exact ⟨e', w'', fr', hR', Comes.of_steps (Steps.trans hs₀ (.one h1)) hs, hfn, hl⟩
  cases e with
  | normal => exact key [] (Steps.trans harr (.one step_end)) hq
  | ret => obtain ⟨todo, hs₀⟩ := harr; exact key todo hs₀ hq
  | _ => exact hq.elim
end Go.Proofs.Ytegjcghcknpjeaa
