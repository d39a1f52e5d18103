import Derived.Test.YtegjcghcknpjeaaE2
namespace Go.Proofs.Ytegjcghcknpjeaa
open Go.RowKit
attribute [local go_sem ↓] Go.wp_at_zero Go.wp_at_succ

/-- the machine in memory: its block g, its cells from B on, its code -/
structure SIn (w : World) (g B : Nat) (am : Option Addr) (cm : Nat) (ca : Option Addr) (cc : Nat) (code : List Ins) (s : St) : Prop where
  st : StB w g 72 (.slice am s.mem.length cm) [.slice ca code.length cc] s
  wf : s.wf
  mem : MemR B w (.slice am s.mem.length cm) s.mem
  apart : ∀ k, (Value.slice am s.mem.length cm).ownBlock = some k → k ≠ g
  codeE : insRep.Els w ca code
  len : code.length ≤ 9223372036854775807
def SOut (g B : Nat) (am : Option Addr) (cm : Nat) (ca : Option Addr) (cc : Nat) (code : List Ins) (n : Nat) (w : World) (s' : St) (w' : World) : Prop :=
  StB w' g 72 (.slice am n cm) [.slice ca code.length cc] s' ∧ MemR B w' (.slice am n cm) s'.mem ∧ KB (fun b => b = g ∨ (Value.slice am n cm).ownBlock = some b) w w'
section
variable {g B : Nat} {am : Option Addr} {cm : Nat} {ca : Option Addr} {cc : Nat} {code : List Ins} {n : Nat} {w w' : World} {s : St}
theorem SIn.start (h : SIn w' g B am cm ca cc code s) (hk : KB (fun b => b = g ∨ (Value.slice am s.mem.length cm).ownBlock = some b) w w') : SOut g B am cm ca cc code s.mem.length w s w' := ⟨h.st, h.mem, hk⟩
variable (h : SOut g B am cm ca cc code n w s w')
include h
theorem SOut.alloc (o : Obj) : SOut g B am cm ca cc code n w s (w'.alloc o) := ⟨h.1.alloc o, World.ownsRow.alloc h.2.1 o, h.2.2.alloc o⟩
theorem SOut.drewN (k : Nat) : SOut g B am cm ca cc code n w s (w'.drewN k) := ⟨h.1.drewN k, h.2.1, h.2.2.drewN k⟩
theorem SOut.below {w'' : World} (hb : Below w'.heap.size w' w'') : SOut g B am cm ca cc code n w s w'' := ⟨h.1.below hb, own_below h.2.1 hb, h.2.2.then_below hb (fun g hg hl => absurd (Nat.lt_of_lt_of_le hl h.2.2.size) (by omega))⟩
variable (hap : ∀ k, (Value.slice am n cm).ownBlock = some k → k ≠ g)
include hap
theorem SOut.other {s1 : St} {w2 : World} (hs2 : StB w2 g 72 (.slice am n cm) [.slice ca code.length cc] s1) (hk : KB (fun b => b = g) w' w2) (hm : s1.mem = s.mem) : SOut g B am cm ca cc code n w s1 w2 :=
  ⟨hs2, by rw [hm]; exact KB.row hk h.2.1 (fun b hb e => hap b hb e), h.2.2.trans (hk.mono (fun b _ e => .inl e))⟩
theorem SOut.setR {i : Nat} (hi : i < 16) (x : Int) : SOut g B am cm ca cc code n w (s.setR (i : Int) x) (w'.setCell ⟨g, i, none⟩ (.int .i64 x)) := ⟨h.1.setR hi x, own_other (p := ⟨g, i, none⟩) h.2.1 hap _, h.2.2.setCell (p := ⟨g, i, none⟩) (fun _ => .inl rfl) _⟩
theorem SOut.setPc (x : Int) : SOut g B am cm ca cc code n w { s with pc := x } (w'.setCell ⟨g, 17, none⟩ (.int .i64 x)) := ⟨h.1.setPc x, own_other (p := ⟨g, 17, none⟩) h.2.1 hap _, h.2.2.setCell (p := ⟨g, 17, none⟩) (fun _ => .inl rfl) _⟩
theorem SOut.setFin (x : Int) : SOut g B am cm ca cc code n w { s with fin := x } (w'.setCell ⟨g, 18, none⟩ (.int .i64 x)) := ⟨h.1.setFin x, own_other (p := ⟨g, 18, none⟩) h.2.1 hap _, h.2.2.setCell (p := ⟨g, 18, none⟩) (fun _ => .inl rfl) _⟩
theorem SOut.setTold (x : Int) : SOut g B am cm ca cc code n w { s with told := x } (w'.setCell ⟨g, 19, none⟩ (.int .i32 x)) := ⟨h.1.setTold x, own_other (p := ⟨g, 19, none⟩) h.2.1 hap _, h.2.2.setCell (p := ⟨g, 19, none⟩) (fun _ => .inl rfl) _⟩
end
theorem SOut.setMem {g B : Nat} {cm : Nat} {ca : Option Addr} {cc : Nat} {code : List Ins} {n : Nat} {w w' : World} {s : St} {G : Nat} (h : SOut g B (some ⟨G, 0, none⟩) cm ca cc code n w s w') (hn : n = s.mem.length) (hap : ∀ k, (Value.slice (some ⟨G, 0, none⟩) n cm).ownBlock = some k → k ≠ g) {q : Nat} (hq : q < s.mem.length) (x : Int) :
    SOut g B (some ⟨G, 0, none⟩) cm ca cc code n w { s with mem := s.mem.set q x } (w'.setCell ⟨G, q, none⟩ (.int .i64 x)) := by
  refine ⟨h.1.other (p := ⟨G, q, none⟩) (hap G rfl) _, ?_, h.2.2.setCell (p := ⟨G, q, none⟩) (fun _ => .inr rfl) _⟩
  subst hn
  obtain ⟨G', c', e, _, _, _, _, hs⟩ := MemR.at h.2.1 hq
  cases e
  exact hs x
/-- a step, at an instruction -/
structure At (i : Ins) (k : Nat) (code : List Ins) (s : St) : Prop where
  lt : k < code.length
  pc : s.pc = k
  here : code[k] = i
  op : 0 ≤ i.op ∧ i.op ≤ 255
  a : i.a < 16
  b : i.b < 16
  c : i.c < 16

set_option maxRecDepth 100000 in
theorem mstep_end (w : World) (g B : Nat) (am : Option Addr) (cm : Nat) (ca : Option Addr) (cc : Nat) (code : List Ins) (s : St) (h : SIn w g B am cm ca cc code s) (hp : ¬ (0 ≤ s.pc ∧ s.pc < code.length)) :
    Calls Try.prog 36 #[.pointer (some ⟨g, 0, none⟩)] w fun e w' => e = .returned (.bool false) ∧ SOut g B am cm ca cc code s.mem.length w { s with fin := 5 } w' := by
  have c17 := h.st.pc
  have c20 : w.cell? ⟨g, 20, none⟩ = some (.slice ca code.length cc) := h.st.rest 0
  have f18 := h.st.frozen 18
  have hst := fun (W : World) (h : StB W g 72 (.slice am s.mem.length cm) [.slice ca code.length cc] s) => stop_any W g 5 h
  have hout : ∀ n, SOut g B am cm ca cc code s.mem.length w { s with fin := 5 } ((w.drewN n).setCell ⟨g, 18, none⟩ (.int .i64 5)) := fun n =>
    ⟨(h.st.drewN n).setFin 5, own_other (p := ⟨g, 18, none⟩) (show (w.drewN n).ownsRow _ _ _ _ _ _ from h.mem) h.apart _, ((KB.refl _ w).drewN n).setCell (p := ⟨g, 18, none⟩) (fun _ => .inl rfl) _⟩
  obtain ⟨p, hpc⟩ : ∃ p, s.pc = p := ⟨_, rfl⟩
  rw [hpc] at c17 hp
  have HO := Lib.hid hout; have HST := Lib.hid hst; have H := Lib.hid h
  clear hout hst h hpc
  by_cases h0 : p < 0
  · go_enter Try.func36, Try.ntmps36
    go_wp2_with fail
    go_quiet (fail)
    go_wp2_with fail
    refine (HST.out _ (H.out.st.drewN _)).mono ?_
    rintro e w' ⟨rfl, rfl⟩
    go_wp2_with fail
    go_ret
    exact ⟨rfl, HO.out _⟩
  · have h0' : decide (p < 0) = false := by simpa using h0
    have h1 : decide ((code.length : Int) ≤ p) = true := by simp; omega
    go_enter Try.func36, Try.ntmps36
    go_wp2_with fail
    go_quiet (fail)
    go_wp2_with fail
    refine (HST.out _ (H.out.st.drewN _)).mono ?_
    rintro e w' ⟨rfl, rfl⟩
    go_wp2_with fail
    go_ret
    exact ⟨rfl, HO.out _⟩

theorem SIn.drewN {w : World} {g B : Nat} {am : Option Addr} {cm : Nat} {ca : Option Addr} {cc : Nat} {code : List Ins} {s : St} (h : SIn w g B am cm ca cc code s) (n : Nat) : SIn (w.drewN n) g B am cm ca cc code s :=
  ⟨h.st.drewN n, h.wf, h.mem, h.apart, h.codeE, h.len⟩

/-- A number times 2^32, and a number below that, put together. -/
theorem khigh (r imm : Int) (hi : -2147483648 ≤ imm ∧ imm ≤ 2147483647) : bits BinOp.or IntKind.i64 (wrap64 (r * 4294967296)) (imm % 4294967296) = wrap64 (r * 4294967296 + low32 imm) := by
  have hb : bits BinOp.or IntKind.i64 (wrap64 (r * 4294967296)) (imm % 4294967296) = IntKind.i64.wrap (((BitVec.ofInt 64 (wrap64 (r * 4294967296)) ||| BitVec.ofInt 64 (imm % 4294967296)).toNat : Nat) : Int) := rfl
  rw [hb, BitVec.toNat_or, BitVec.toNat_ofInt, BitVec.toNat_ofInt, wrap_is]
  have h1 : (wrap64 (r * 4294967296) % ((2 ^ 64 : Nat) : Int)).toNat = 2 ^ 32 * (r % 4294967296).toNat := by
    unfold wrap64
    have : ((2 ^ 64 : Nat) : Int) = 18446744073709551616 := by decide
    rw [this]
    have : (2 ^ 32 : Nat) = 4294967296 := by decide
    rw [this]
    omega
  have h2 : (imm % 4294967296 % ((2 ^ 64 : Nat) : Int)).toNat = (imm % 4294967296).toNat := by
    have : ((2 ^ 64 : Nat) : Int) = 18446744073709551616 := by decide
    rw [this]
    omega
  have h3 : (imm % 4294967296).toNat < 2 ^ 32 := by
    have : (2 ^ 32 : Nat) = 4294967296 := by decide
    rw [this]
    omega
  rw [h1, h2, ← Nat.two_pow_add_eq_or_of_lt h3]
  have : (2 ^ 32 : Nat) = 4294967296 := by decide
  rw [this]
  unfold wrap64 low32
  split <;> omega
end Go.Proofs.Ytegjcghcknpjeaa
