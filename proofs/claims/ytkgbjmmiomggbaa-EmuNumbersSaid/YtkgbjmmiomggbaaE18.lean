import Derived.Test.YtkgbjmmiomggbaaE10
import Derived.Test.YtkgbjmmiomggbaaE11
import Derived.Test.YtkgbjmmiomggbaaE12
import Derived.Test.YtkgbjmmiomggbaaE13
import Derived.Test.YtkgbjmmiomggbaaE14
import Derived.Test.YtkgbjmmiomggbaaE16
import Derived.Test.YtkgbjmmiomggbaaE17
namespace Go.Proofs.Ytkgbjmmiomggbaa
open Go.RowKit

/-- the reference's step -/
theorem rstep_any (w : World) (B : Nat) (am : Option Addr) (cm : Nat) (ca : Option Addr) (cc : Nat) (code : List Ins) (s : St) (hwf : s.wf) (hm : MemR B w (.slice am s.mem.length cm) s.mem) (he : insRep.Els w ca code) (hlen : code.length ≤ 9223372036854775807) (hcB : ∀ b off, ca = some ⟨b, off, none⟩ → b < B) :
    Calls Try.prog 21 #[.slice ca code.length cc, .agg (cellsSt (.slice am s.mem.length cm) s).toArray] w (ROut B am cm s.mem.length w (rstepS code s)) := by
  by_cases hp : 0 ≤ s.pc ∧ s.pc < code.length
  · obtain ⟨k, hk⟩ := Int.eq_ofNat_of_zero_le hp.1
    have hlt : k < code.length := by omega
    have hget : code[s.pc.toNat]'(by omega) = code[k] := by simp [hk]
    have hm0 : rstepS code s = (if (code[k]).right then (stepI code[k] s).1 else { s with fin := 5 }) := by
      unfold rstepS
      rw [dif_pos hp, hget]
    rw [hm0]
    by_cases hR : (code[k]).right = true
    · rw [if_pos hR]
      obtain ⟨ra, rb, rc, ro⟩ := right_facts hR
      have hwi : (code[k]).wf := by obtain ⟨_, _, _, hw, _⟩ := els_ins he hlt; exact hw
      have hA : At code[k] k code s := ⟨hlt, hk, rfl, hwi.op, ra, rb, rc⟩
      generalize code[k] = i at hA ro hR
      rcases ro with ho | ho | ho | ho | ho | ho | ho | ho | ho | ho | ho | ho
      · have := rstep_0 w B am cm ca cc code s hwf hm he hlen i k hA hR hcB ho
        rwa [show (stepI i s).1 = { s with fin := 1 } from congrArg Prod.fst (show stepI i s = ({ s with fin := 1 }, false) from by unfold stepI; rw [if_pos ho])]
      · have := rstep_1 w B am cm ca cc code s hwf hm he hlen i k hA hR hcB ho
        rwa [show (stepI i s).1 = { s with fin := 2, told := i.imm } from congrArg Prod.fst (show stepI i s = ({ s with fin := 2, told := i.imm }, false) from by unfold stepI; simp [ho])]
      · have := rstep_2 w B am cm ca cc code s hwf hm he hlen i k hA hR hcB ho
        rwa [show (stepI i s).1 = { s.setR i.a i.imm with pc := (k : Int) + 1 } from congrArg Prod.fst (show stepI i s = ({ s.setR i.a i.imm with pc := (k : Int) + 1 }, true) from by unfold stepI; simp [ho, hk])]
      · have := rstep_3 w B am cm ca cc code s hwf hm he hlen i k hA hR hcB ho
        rwa [show (stepI i s).1 = { s.setR i.a (wrap64 (s.R i.a * 4294967296 + low32 i.imm)) with pc := (k : Int) + 1 } from congrArg Prod.fst (show stepI i s = ({ s.setR i.a (wrap64 (s.R i.a * 4294967296 + low32 i.imm)) with pc := (k : Int) + 1 }, true) from by unfold stepI; simp [ho, hk])]
      · have := rstep_4 w B am cm ca cc code s hwf hm he hlen i k hA hR hcB ho
        rwa [show (stepI i s).1 = { s.setR i.a (s.R i.b) with pc := (k : Int) + 1 } from congrArg Prod.fst (show stepI i s = ({ s.setR i.a (s.R i.b) with pc := (k : Int) + 1 }, true) from by unfold stepI; simp [ho, hk])]
      · by_cases hin : 0 ≤ wrap64 (s.R i.b + i.imm) ∧ wrap64 (s.R i.b + i.imm) < (s.mem.length : Int)
        · obtain ⟨q, hq⟩ := Int.eq_ofNat_of_zero_le hin.1
          have := rstep_5a w B am cm ca cc code s hwf hm he hlen i k hA hR hcB ho q (by omega) hq _ rfl
          rwa [show (stepI i s).1 = { s.setR i.a (s.mem.getD q 0) with pc := (k : Int) + 1 } from congrArg Prod.fst (show stepI i s = ({ s.setR i.a (s.mem.getD q 0) with pc := (k : Int) + 1 }, true) from by unfold stepI; rw [if_neg (by omega), if_neg (by omega), if_neg (by omega), if_neg (by omega), if_neg (by omega), if_neg (by omega), if_pos ho, if_pos hin, hq, hk]; rfl)]
        · have := rstep_5b w B am cm ca cc code s hwf hm he hlen i k hA hR hcB ho hin
          rwa [show (stepI i s).1 = { s with fin := 3 } from congrArg Prod.fst (show stepI i s = ({ s with fin := 3 }, false) from by unfold stepI; rw [if_neg (by omega), if_neg (by omega), if_neg (by omega), if_neg (by omega), if_neg (by omega), if_neg (by omega), if_pos ho, if_neg hin])]
      · by_cases hin : 0 ≤ wrap64 (s.R i.b + i.imm) ∧ wrap64 (s.R i.b + i.imm) < (s.mem.length : Int)
        · obtain ⟨q, hq⟩ := Int.eq_ofNat_of_zero_le hin.1
          have := rstep_6a w B am cm ca cc code s hwf hm he hlen i k hA hR hcB ho q (by omega) hq
          rwa [show (stepI i s).1 = { s with mem := s.mem.set q (s.R i.a), pc := (k : Int) + 1 } from congrArg Prod.fst (show stepI i s = ({ s with mem := s.mem.set q (s.R i.a), pc := (k : Int) + 1 }, true) from by unfold stepI; rw [if_neg (by omega), if_neg (by omega), if_neg (by omega), if_neg (by omega), if_neg (by omega), if_neg (by omega), if_neg (by omega), if_pos ho, if_pos hin, hq, hk]; rfl)]
        · have := rstep_6b w B am cm ca cc code s hwf hm he hlen i k hA hR hcB ho hin
          rwa [show (stepI i s).1 = { s with fin := 3 } from congrArg Prod.fst (show stepI i s = ({ s with fin := 3 }, false) from by unfold stepI; rw [if_neg (by omega), if_neg (by omega), if_neg (by omega), if_neg (by omega), if_neg (by omega), if_neg (by omega), if_neg (by omega), if_pos ho, if_neg hin])]
      · have := rstep_7 w B am cm ca cc code s hwf hm he hlen i k hA hR hcB ho
        rwa [show (stepI i s).1 = { s with pc := i.imm } from congrArg Prod.fst (show stepI i s = ({ s with pc := i.imm }, true) from by unfold stepI; simp [ho])]
      · by_cases hl : s.R i.a < s.R i.b
        · have := rstep_8a w B am cm ca cc code s hwf hm he hlen i k hA hR hcB ho hl
          rwa [show (stepI i s).1 = { s with pc := i.imm } from congrArg Prod.fst (show stepI i s = ({ s with pc := i.imm }, true) from by unfold stepI; simp [ho, hl])]
        · have := rstep_8b w B am cm ca cc code s hwf hm he hlen i k hA hR hcB ho hl
          rwa [show (stepI i s).1 = { s with pc := (k : Int) + 1 } from congrArg Prod.fst (show stepI i s = ({ s with pc := (k : Int) + 1 }, true) from by unfold stepI; simp [ho, hl, hk])]
      · by_cases hl : s.R i.a = 0
        · have := rstep_9a w B am cm ca cc code s hwf hm he hlen i k hA hR hcB ho hl
          rwa [show (stepI i s).1 = { s with pc := i.imm } from congrArg Prod.fst (show stepI i s = ({ s with pc := i.imm }, true) from by unfold stepI; simp [ho, hl])]
        · have := rstep_9b w B am cm ca cc code s hwf hm he hlen i k hA hR hcB ho hl
          rwa [show (stepI i s).1 = { s with pc := (k : Int) + 1 } from congrArg Prod.fst (show stepI i s = ({ s with pc := (k : Int) + 1 }, true) from by unfold stepI; simp [ho, hl, hk])]
      · have := rstep_10 w B am cm ca cc code s hwf hm he hlen i k hA hR hcB ho
        rwa [show (stepI i s).1 = { s.setR i.a (wrap64 (s.R i.b + i.imm)) with pc := (k : Int) + 1 } from congrArg Prod.fst (show stepI i s = ({ s.setR i.a (wrap64 (s.R i.b + i.imm)) with pc := (k : Int) + 1 }, true) from by unfold stepI; simp [ho, hk])]
      · obtain ⟨⟨m, e0⟩, hx⟩ : ∃ r, reckS i s = r := ⟨_, rfl⟩
        by_cases he0 : e0 = 0
        · subst he0
          have := rstep_calla w B am cm ca cc code s hwf hm he hlen i k hA hR hcB ho m hx
          rwa [show (stepI i s).1 = { s.setR i.a m with pc := (k : Int) + 1 } from by rw [stepI_call ho]; unfold callS; rw [hx]; simp [hk]]
        · have := rstep_callb w B am cm ca cc code s hwf hm he hlen i k hA hR hcB ho m e0 he0 hx
          rwa [show (stepI i s).1 = { s with fin := 4 } from by rw [stepI_call ho]; unfold callS; rw [hx]; simp [he0]]
    · rw [if_neg hR]
      exact rstep_bad w B am cm ca cc code s hwf hm hlen he _ k hlt hk rfl (by simpa using hR)
  · rw [show rstepS code s = { s with fin := 5 } from by unfold rstepS; rw [dif_neg hp]]
    by_cases h0 : s.pc < 0
    · exact rstep_neg w B am cm ca cc code s hwf hm hlen h0
    · exact rstep_over w B am cm ca cc code s hwf hm hlen (by omega) (by omega)
end Go.Proofs.Ytkgbjmmiomggbaa
