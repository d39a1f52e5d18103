import Derived.Test.YtokghjnkfabgiaaGreatDoorTD13
import Derived.Test.YtokghjnkfabgiaaGreatDoorTD5
set_option linter.unusedVariables false
set_option linter.unusedSimpArgs false
set_option maxRecDepth 100000
namespace Go.Proofs.YtokghjnkfabgiaaGreatDoor
open Go.RowKit Go.Lib
attribute [local go_sem] str_size str_get
attribute [local go_sem high] run_str_from run_str_to run_str_add

def tkV (t : Tk) (a : Int) : Value := .agg #[.int .i64 t.kind, .int .i64 a, .string (str t.word), .int .i64 t.n]
theorem tokenf_any (b : UInt8) (w : World) : Calls Tryz.prog 43 #[.int .u8 (b.toNat : Int)] w fun e w' => e = .returned (.bool (isNameB b)) ∧ w' = w := by
 have h1 := letter_any b w
 have h2 := digit_any b w
 have hn : isNameB b = (isLetter b || isDigit b) := rfl
 rw [hn]
 generalize isLetter b = p1 at h1 ⊢
 generalize isDigit b = p2 at h2 ⊢
 have H1 := Lib.hid h1; have H2 := Lib.hid h2
 clear h1 h2 hn
 go_enter Tryz.func43, Tryz.ntmps43
 go_wp2_with (first
  | (go_at_call 42; refine H1.out.mono ?_; rintro e w' ⟨rfl, rfl⟩)
  | (go_at_call 44; refine H2.out.mono ?_; rintro e w' ⟨rfl, rfl⟩))
 all_goals (go_ret; refine ⟨ret_bool ?_, rfl⟩; simp_all)
def TokE (o : Option (Tk × Nat)) (e : Ending) : Prop := match o with
 | some p => e = .returned (.tuple #[tkV p.1 0, .int .i64 (p.2 : Int), .int .i64 0])
 | none => ∃ k s m n x, e = .returned (.tuple #[.agg #[.int .i64 k, .int .i64 0, .string s, .int .i64 m], .int .i64 n, .int .i64 x]) ∧ (x == 0) = false
theorem results_tk {tmps : Array Value} {w : World} (g : Nat) {a b c d x y : Value}
  (hp : tmps.getD 2 undef = .pointer (some ⟨g, 0, none⟩)) (hq : tmps.getD 3 undef = x) (hr : tmps.getD 4 undef = y) (hg : w.heap[g]? = some (.cells #[a, b, c, d] 39 (0, 0))) :
  (results Tryz.f25 tmps).run Tryz.prog w = .ok (.tuple #[.agg #[a, b, c, d], x, y]) w := by
 have hp' : tmps[2]?.getD undef = .pointer (some ⟨g, 0, none⟩) := by simpa using hp
 have hq' : tmps[3]?.getD undef = x := by simpa using hq
 have hr' : tmps[4]?.getD undef = y := by simpa using hr
 have h : Tryz.f25.results = #[.cell 2 39, .tmp 3, .tmp 4] := by rfl
 simp [results, h, hp', hq', hr', asAddr, run_loadVar_row w g 39 39 #[a, b, c, d] (0, 0) _ hg Tryz.underlying39 rfl (by kernel_rfl)]
theorem TokE.mk {o : Option (Tk × Nat)} {e : Ending} {w w' : World} (h : TokE o e) (hb : Below w.heap.size w w') : TokE o e ∧ Below w.heap.size w w' := ⟨h, hb⟩
set_option maxHeartbeats 2000000 in
theorem token_any (w : World) (ht : TabT w) (b : UInt8) (r : Str) (hl : (b :: r).length ≤ 65536) : Calls Tryz.prog 25 #[.string (str (b :: r))] w fun e w' => TokE (tokQ (b :: r)) e ∧ Below w.heap.size w w' := by
 rw [tok_parts]
 by_cases h10 : b = 10
 ·rw [if_pos h10]
  subst h10
  go_enter Tryz.func25, Tryz.ntmps25
  go_wp2_with fail
  refine bodyPost_ret (results_tk _ rfl rfl rfl (World.alloc_heap_new _ _)) rfl ⟨rfl, ?_⟩
  exact (Below.refl _ _).alloc (Nat.le_refl _) _
 rw [if_neg h10]
 have hbe : ((b.toNat : Int) == 10) = false := by
  rw [beq_eq_false_iff_ne]; intro e; exact h10 (UInt8.toNat_inj.1 (by show b.toNat = 10; omega))
 have hlt := fun w => letter_any b w
 have hru := fun w => run_any w (b :: r) 43 isNameB (fun a w => callFunc_enter Tryz.func43 (by kernel_rfl) rfl a w) (by omega) (fun b w => tokenf_any b w)
 have hnu := fun (w' : World) (hw : Below w.heap.size w w') => number_any w' (ht.below hw) b r hl
 have hsi := fun w => sign_any w b r (by omega)
 have hsp := span_le isNameB (b :: r)
 have hsn : signN b r ≤ (b :: r).length := by
  unfold signN
  split
  ·rename_i h
   cases r with
   | nil => cases h.2
   | cons c r => simp
  ·split <;> simp
 generalize spanN isNameB (b :: r) = n at hru hsp ⊢
 generalize signN b r = m at hsi hsn ⊢
 generalize numQ b r = q at hnu ⊢
 obtain ⟨v, k, bad⟩ := q
 dsimp only at hnu ⊢
 have HR := Lib.hid hru; have HN := Lib.hid hnu; have HS := Lib.hid hsi
 cases hq : isLetter b with
 | true =>
  rw [hq] at hlt
  have HL := Lib.hid hlt
  clear hru hnu hsi hlt hq
  rw [if_pos rfl]
  by_cases h16 : 16 < n
  ·rw [if_pos h16]
   go_enter Tryz.func25, Tryz.ntmps25
   go_wp2_with (first
    | (go_at_call 42; refine (HL.out _).mono ?_; rintro e w' ⟨rfl, rfl⟩)
    | (go_at_call 23; refine (HR.out _).mono ?_; rintro e w' ⟨rfl, rfl⟩))
   refine bodyPost_ret (results_tk _ rfl rfl rfl (World.alloc_heap_new _ _)) rfl ⟨⟨_, _, _, _, _, rfl, rfl⟩, ?_⟩
   exact (Below.refl _ _).alloc (Nat.le_refl _) _
  ·rw [if_neg h16]
   go_enter Tryz.func25, Tryz.ntmps25
   go_wp2_with (first
    | (go_at_call 42; refine (HL.out _).mono ?_; rintro e w' ⟨rfl, rfl⟩)
    | (go_at_call 23; refine (HR.out _).mono ?_; rintro e w' ⟨rfl, rfl⟩))
   refine bodyPost_ret (results_tk _ rfl rfl rfl (World.alloc_heap_new _ _)) rfl ⟨rfl, ?_⟩
   exact (Below.refl _ _).alloc (Nat.le_refl _) _
 | false =>
  rw [hq] at hlt
  have HL := Lib.hid hlt
  clear hru hnu hsi hlt hq
  rw [if_neg (by decide)]
  cases bad with
  | true =>
   rw [if_pos rfl]
   rw [if_pos rfl] at HN
   go_enter Tryz.func25, Tryz.ntmps25
   go_wp2_with (first
    | (go_at_call 42; refine (HL.out _).mono ?_; rintro e w' ⟨rfl, rfl⟩))
   refine (HN.out _ ((Below.refl _ _).alloc (Nat.le_refl _) _)).mono ?_
   rintro e w1 ⟨rfl, hb1⟩
   have HR0 := Lib.hid (new1 hb1)
   have HB := Lib.hid (bNext hb1 ((Below.refl _ _).alloc (Nat.le_refl _) _))
   clear hb1 HN
   obtain ⟨G, hG⟩ : ∃ G, w.heap.size = G := ⟨_, rfl⟩
   rw [hG] at HR0 ⊢
   go_wp2_with (first | ((with_reducible show wpList _ _ _ ({ dst := none, op := Op.store 39 (.tmp 2) (.tmp _), type := _, pos := _, after := _, guard := _ } :: _) _ _); (refine wpList_storeW rfl 39 _ _ rfl G rfl _ _ rfl _ HR0.out (by kernel_rfl) (by rfl) (by rfl) ?_); intro w2 hr2 hg2))
   all_goals exact bodyPost_ret (results_tk G rfl rfl rfl hr2) rfl ⟨⟨_, _, _, _, _, rfl, rfl⟩, hG ▸ HB.out.grown hg2 HB.out.size (fun k hk => by cases hk; omega)⟩
  | false =>
   rw [if_neg (by decide)]
   rw [if_neg (by decide)] at HN
   by_cases hk : k = 0
   ·subst hk
    rw [if_neg (by decide)]
    by_cases hm : m = 0
    ·subst hm
     rw [if_pos rfl]
     go_enter Tryz.func25, Tryz.ntmps25
     go_wp2_with (first
      | (go_at_call 42; refine (HL.out _).mono ?_; rintro e w' ⟨rfl, rfl⟩))
     refine (HN.out _ ((Below.refl _ _).alloc (Nat.le_refl _) _)).mono ?_
     rintro e w1 ⟨rfl, hb1⟩
     have HR0 := Lib.hid (new1 hb1)
     have HB := Lib.hid (bNext hb1 ((Below.refl _ _).alloc (Nat.le_refl _) _))
     clear hb1 HN
     obtain ⟨G, hG⟩ : ∃ G, w.heap.size = G := ⟨_, rfl⟩
     rw [hG] at HR0 ⊢
     go_wp2_with (first
      | (go_at_call 46; refine (HS.out _).mono ?_; rintro e w' ⟨rfl, rfl⟩)
      | ((with_reducible show wpList _ _ _ ({ dst := none, op := Op.store 39 (.tmp 2) (.tmp _), type := _, pos := _, after := _, guard := _ } :: _) _ _); (refine wpList_storeW rfl 39 _ _ rfl G rfl _ _ rfl _ HR0.out (by kernel_rfl) (by rfl) (by rfl) ?_); intro w2 hr2 hg2))
     exact bodyPost_ret (results_tk G rfl rfl rfl hr2) rfl ⟨⟨_, _, _, _, _, rfl, rfl⟩, hG ▸ HB.out.grown hg2 HB.out.size (fun k hk => by cases hk; omega)⟩
    ·rw [if_neg hm]
     have hm0 : ((m : Int) == 0) = false := by rw [beq_eq_false_iff_ne]; omega
     go_enter Tryz.func25, Tryz.ntmps25
     go_wp2_with (first
      | (go_at_call 42; refine (HL.out _).mono ?_; rintro e w' ⟨rfl, rfl⟩))
     refine (HN.out _ ((Below.refl _ _).alloc (Nat.le_refl _) _)).mono ?_
     rintro e w1 ⟨rfl, hb1⟩
     have HR0 := Lib.hid (new1 hb1)
     have HB := Lib.hid (bNext hb1 ((Below.refl _ _).alloc (Nat.le_refl _) _))
     clear hb1 HN
     obtain ⟨G, hG⟩ : ∃ G, w.heap.size = G := ⟨_, rfl⟩
     rw [hG] at HR0 ⊢
     go_wp2_with (first
      | (go_at_call 46; refine (HS.out _).mono ?_; rintro e w' ⟨rfl, rfl⟩)
      | ((with_reducible show wpList _ _ _ ({ dst := none, op := Op.store 39 (.tmp 2) (.tmp _), type := _, pos := _, after := _, guard := _ } :: _) _ _); (refine wpList_storeW rfl 39 _ _ rfl G rfl _ _ rfl _ HR0.out (by kernel_rfl) (by rfl) (by rfl) ?_); intro w2 hr2 hg2))
     exact bodyPost_ret (results_tk G rfl rfl rfl hr2) rfl ⟨rfl, hG ▸ HB.out.grown hg2 HB.out.size (fun k hk => by cases hk; omega)⟩
   ·rw [if_pos hk]
    have hk0 : 0 < k := by omega
    go_enter Tryz.func25, Tryz.ntmps25
    go_wp2_with (first
     | (go_at_call 42; refine (HL.out _).mono ?_; rintro e w' ⟨rfl, rfl⟩))
    refine (HN.out _ ((Below.refl _ _).alloc (Nat.le_refl _) _)).mono ?_
    rintro e w1 ⟨rfl, hb1⟩
    have HR0 := Lib.hid (new1 hb1)
    have HB := Lib.hid (bNext hb1 ((Below.refl _ _).alloc (Nat.le_refl _) _))
    clear hb1 HN
    obtain ⟨G, hG⟩ : ∃ G, w.heap.size = G := ⟨_, rfl⟩
    rw [hG] at HR0 ⊢
    go_wp2_with (first | ((with_reducible show wpList _ _ _ ({ dst := none, op := Op.store 39 (.tmp 2) (.tmp _), type := _, pos := _, after := _, guard := _ } :: _) _ _); (refine wpList_storeW rfl 39 _ _ rfl G rfl _ _ rfl _ HR0.out (by kernel_rfl) (by rfl) (by rfl) ?_); intro w2 hr2 hg2))
    exact bodyPost_ret (results_tk G rfl rfl rfl hr2) rfl ⟨rfl, hG ▸ HB.out.grown hg2 HB.out.size (fun k hk => by cases hk; omega)⟩
end Go.Proofs.YtokghjnkfabgiaaGreatDoor
