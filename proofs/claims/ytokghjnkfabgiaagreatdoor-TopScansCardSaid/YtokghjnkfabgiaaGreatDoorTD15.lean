import Derived.Test.YtokghjnkfabgiaaGreatDoorTD14
import Derived.Test.YtokghjnkfabgiaaGreatDoorTD7
import Derived.WalkMore
set_option linter.unusedVariables false
set_option linter.unusedSimpArgs false
set_option maxRecDepth 100000
namespace Go.Proofs.YtokghjnkfabgiaaGreatDoor
open Go.RowKit Go.Lib
attribute [local go_sem] str_size str_get
attribute [local go_sem high] run_str_from run_str_to run_str_add

def tokR : Rep (Tk × Nat) := Rep.flat 4 (fun p => [.int .i64 p.1.kind, .int .i64 (p.2 : Int), .string (str p.1.word), .int .i64 p.1.n]) (fun _ => True) (fun _ => rfl) (by intro x v hv; simp at hv; rcases hv with rfl | rfl | rfl | rfl <;> rfl)
theorem keep_tok (B : Nat) : KeepR tokR B 39 := fun _ _ _ _ _ _ h => h
theorem lexF_cons (b : UInt8) (r : Str) (a : Nat) : lexF (b :: r) a = if isBlank b = true then lexF r (a + 1) else if b = 35 then lexF ((b :: r).drop (spanN (fun c => c != 10) (b :: r))) (a + spanN (fun c => c != 10) (b :: r)) else
  (tokQ (b :: r)).bind fun p => (lexF ((b :: r).drop p.2) (a + p.2)).map fun l => (p.1, a) :: l := by
 unfold lexF
 rw [show (b :: r).length = r.length + 1 from rfl, lexK]
 by_cases h1 : isBlank b = true
 ·rw [if_pos h1, if_pos h1]
 rw [if_neg h1, if_neg h1]
 by_cases h2 : b = 35
 ·rw [if_pos h2, if_pos h2]
  have h3 : 1 ≤ spanN (fun c => c != 10) (b :: r) := by
   subst h2
   rw [spanN, if_pos (by decide)]
   omega
  exact lex_fuel _ _ _ _ (by simp; omega) (by simp)
 rw [if_neg h2, if_neg h2]
 cases ht : tokQ (b :: r) with
 | none => rfl
 | some p =>
  obtain ⟨-, h3, -⟩ := tok_right ht
  show (lexK r.length _ _).map _ = (lexK _ _ _).map _
  rw [lex_fuel r.length ((b :: r).drop p.2).length _ _ (by simp; omega) (by simp)]
def LexE (w : World) (o : Option (List (Tk × Nat))) (e : Ending) (w' : World) : Prop := (match o with
 | some q => ∃ v, e = .returned (.tuple #[v, .agg #[.int .i64 0, .int .i64 0]]) ∧ RowG tokR w.heap.size 39 w' v q
 | none => ∃ a c, e = .returned (.tuple #[.slice none 0 0, .agg #[.int .i64 a, .int .i64 c]]) ∧ (c == 0) = false) ∧ Below w.heap.size w w'
theorem lexf_any (b : UInt8) (w : World) : Calls Tryz.prog 24 #[.int .u8 (b.toNat : Int)] w fun e w' => e = .returned (.bool (b != 10)) ∧ w' = w := by
 have h : ((b.toNat : Int) != 10) = (b != 10) := by
  by_cases hb : b = 10
  ·subst hb; decide
  ·have : (b.toNat : Int) ≠ 10 := fun e => hb (UInt8.toNat_inj.1 (by show b.toNat = 10; omega))
   rw [show ((b.toNat : Int) != 10) = true from by simpa using this, show (b != 10) = true from by simpa using hb]
 have H := Lib.hid h; clear h
 go_enter Tryz.func24, Tryz.ntmps24
 go_wp2
 go_ret
 exact ⟨ret_bool H.out, rfl⟩
theorem ne_byte {b c : UInt8} (h : b ≠ c) : ((b.toNat : Int) == (c.toNat : Int)) = false := by
 rw [beq_eq_false_iff_ne]; intro e; exact h (UInt8.toNat_inj.1 (by omega))
theorem results_lex {tmps : Array Value} {w : World} (g : Nat) {a b x : Value}
  (hp : tmps.getD 3 undef = .pointer (some ⟨g, 0, none⟩)) (hq : tmps.getD 2 undef = x) (hg : w.heap[g]? = some (.cells #[a, b] 28 (0, 0))) :
  (results Tryz.f8 tmps).run Tryz.prog w = .ok (.tuple #[x, .agg #[a, b]]) w := by
 have hp' : tmps[3]?.getD undef = .pointer (some ⟨g, 0, none⟩) := by simpa using hp
 have hq' : tmps[2]?.getD undef = x := by simpa using hq
 have h : Tryz.f8.results = #[.tmp 2, .cell 3 28] := by rfl
 simp [results, h, hp', hq', asAddr, run_loadVar_row w g 28 28 #[a, b] (0, 0) _ hg Tryz.underlying28 rfl (by kernel_rfl)]
structure LexI (w W : World) (G : Nat) (v : Value) (acc : List (Tk × Nat)) : Prop where
 size : w.heap.size = G
 below : Below G w W
 row : RowG tokR G 39 W v acc
 box : W.heap[G]? = some (.cells #[.int .i64 0, .int .i64 0] 28 (0, 0))
theorem lex_none {l : Str} {k : Nat} {acc : List (Tk × Nat)} (h : lexF l 0 = (lexF (l.drop k) k).map (acc ++ ·)) (hn : lexF (l.drop k) k = none) : lexF l 0 = none := by rw [h, hn]; rfl
theorem lex_next {l : Str} {k n : Nat} {acc : List (Tk × Nat)} {t : Tk} (h : lexF l 0 = (lexF (l.drop k) k).map (acc ++ ·)) (hn : lexF (l.drop k) k = (lexF (l.drop (k + n)) (k + n)).map fun q => (t, k) :: q) : lexF l 0 = (lexF (l.drop (k + n)) (k + n)).map ((acc ++ [(t, k)]) ++ ·) := by
 rw [h, hn, Option.map_map]
 congr 1
 funext q
 simp
theorem RowG.alloc {α : Type} {R : Rep α} {M : Nat} {t : TypeId} {w : World} {v : Value} {xs : List α} (h : RowG R M t w v xs) (o : Obj) : RowG R M t (w.alloc o) v xs := h.next ((Below.refl _ _).alloc (Nat.le_refl _) _)
theorem heap_alloc {w : World} {g : Nat} {x : Obj} (h : w.heap[g]? = some x) (o : Obj) : (w.alloc o).heap[g]? = some x := by
 rw [Below.heap_alloc _ _ _ (Array.getElem?_eq_some_iff.1 h).1]; exact h
set_option maxHeartbeats 4000000 in
theorem lex_any (w : World) (ht : TabT w) (l : Str) (hm : l.length ≤ 9223372036854775807) : Calls Tryz.prog 8 #[.string (str l)] w (LexE w (lexP l)) := by
 unfold lexP
 by_cases hl : 65536 < l.length
 ·rw [if_pos hl]
  go_enter Tryz.func8, Tryz.ntmps8
  go_wp2_with fail
  go_step3
  go_wp2_with fail
  rw [Exit.noGoto_ret]
  refine bodyPost_ret (results_lex _ rfl rfl (World.alloc_heap_new _ _)) rfl ⟨⟨_, _, rfl, rfl⟩, ?_⟩
  exact (Below.refl _ _).alloc (Nat.le_refl _) _
 rw [if_neg hl]
 go_enter Tryz.func8, Tryz.ntmps8
 go_wp2_with fail
 go_step3
 go_wp2_with fail
 go_step3
 go_wp2_with fail
 obtain ⟨G, hG⟩ : ∃ G, w.heap.size = G := ⟨_, rfl⟩
 have hI0 : LexI w (w.alloc (.cells #[.int .i64 0, .int .i64 0] 28)) G (.slice none 0 0) [] :=
  ⟨hG, hG ▸ (Below.refl _ _).alloc (Nat.le_refl _) _, RowG.nil _ _ _ _, hG ▸ World.alloc_heap_new _ _⟩
 rw [hG]
 generalize w.alloc (.cells #[.int .i64 0, .int .i64 0] 28) = W0 at hI0 ⊢
 have HI0 := Lib.hid hI0; clear hI0
 go_loopw [4, 5] (fun v i wr => ∃ (k : Nat) (acc : List (Tk × Nat)), k ≤ l.length ∧ acc.length ≤ k ∧ i = .int .i64 k ∧ LexI w wr G v acc ∧ lexF l 0 = (lexF (l.drop k) k).map (acc ++ ·)) (fun _ i _ => l.length - (Lib.intOf i).toNat)
 case atStart => exact ⟨0, [], Nat.zero_le _, Nat.le_refl _, rfl, HI0.out, by simp⟩
 case round =>
  obtain ⟨k, acc, hk, hac, rfl, hI, hr⟩ := hrel
  by_cases hlt : k < l.length
  ·obtain ⟨b, r, hd⟩ : ∃ b r, l.drop k = b :: r := ⟨l[k], l.drop (k + 1), List.drop_eq_getElem_cons hlt⟩
   have HI := Lib.hid hI; have HR := Lib.hid hr
   clear hI hr
   have hlen : (b :: r).length = l.length - k := by rw [← hd]; simp
   have HLEN := Lib.hid hlen; clear hlen
   have hnb : ∀ c : UInt8, isBlank c = (c == 32 || c == 9) := fun c => rfl
   by_cases h32 : b = 32
   ·subst h32
    have hn : lexF l 0 = (lexF (l.drop (k + 1)) (k + 1)).map (acc ++ ·) := by rw [HR.out, hd, lexF_blank (by decide), ← List.drop_drop, hd]; rfl
    have HN := Lib.hid hn; clear hn HR
    go_wp2_with fail
    go_roundw
    case rel => exact ⟨k + 1, acc, by omega, by omega, by go_num, HI.out, HN.out⟩
    case measure => simp [Lib.intOf]; omega
   by_cases h9 : b = 9
   ·subst h9
    have hn : lexF l 0 = (lexF (l.drop (k + 1)) (k + 1)).map (acc ++ ·) := by rw [HR.out, hd, lexF_blank (by decide), ← List.drop_drop, hd]; rfl
    have HN := Lib.hid hn; clear hn HR
    go_wp2_with fail
    go_roundw
    case rel => exact ⟨k + 1, acc, by omega, by omega, by go_num, HI.out, HN.out⟩
    case measure => simp [Lib.intOf]; omega
   have hb0 : isBlank b = false := by rw [hnb]; simp [h32, h9]
   have q32 : ((b.toNat : Int) == 32) = false := ne_byte h32
   have q9 : ((b.toNat : Int) == 9) = false := ne_byte h9
   clear hnb
   by_cases h35 : b = 35
   ·subst h35
    have hru := run_any wr (35 :: r) 24 (fun c => c != 10) (fun a w => callFunc_enter Tryz.func24 (by kernel_rfl) rfl a w) (by have := HLEN.out; omega) (fun b w => lexf_any b w)
    have hs := span_le (fun c : UInt8 => c != 10) (35 :: r)
    have h1 : 1 ≤ spanN (fun c : UInt8 => c != 10) (35 :: r) := by rw [spanN, if_pos (by decide)]; omega
    have hn : lexF l 0 = (lexF (l.drop (k + spanN (fun c : UInt8 => c != 10) (35 :: r))) (k + spanN (fun c : UInt8 => c != 10) (35 :: r))).map (acc ++ ·) := by
     rw [HR.out, hd, lexF_cons, if_neg (by rw [hb0]; decide), if_pos rfl, ← List.drop_drop, hd]
    generalize spanN (fun c : UInt8 => c != 10) (35 :: r) = n at hru hs hn h1
    rw [HLEN.out] at hs
    have HN := Lib.hid hn; have HRU := Lib.hid hru; clear hn HR hru HLEN
    go_wp2_with (go_at_call 23; refine HRU.out.mono ?_; rintro e w' ⟨rfl, rfl⟩)
    go_roundw
    case rel => exact ⟨k + n, acc, by omega, by omega, by go_num, HI.out, HN.out⟩
    case measure => simp [Lib.intOf]; omega
   have q35 : ((b.toNat : Int) == 35) = false := ne_byte h35
   have hto := token_any wr (ht.below (HI.out.size ▸ HI.out.below)) b r (by have := HLEN.out; omega)
   have hlx := lexF_cons b r k
   rw [if_neg (by rw [hb0]; decide), if_neg h35] at hlx
   cases htk : tokQ (b :: r) with
   | none =>
    rw [htk] at hto hlx
    have hn := lex_none HR.out (by rw [hd]; exact hlx)
    have HTO := Lib.hid hto; have HN := Lib.hid hn
    clear hto hn hlx HR
    obtain ⟨hsz, hbl, -, hbx⟩ := HI.out
    have hbx' : ∀ w1, Below wr.heap.size wr w1 → ∀ o, (w1.alloc o).heap[G]? = some (.cells #[.int .i64 0, .int .i64 0] 28 (0, 0)) := fun w1 hb o => by
     have h1 := block_below hbx hb
     rw [Below.heap_alloc _ _ _ (Array.getElem?_eq_some_iff.1 h1).1]; exact h1
    have HBX := Lib.hid hbx'; have HBL := Lib.hid hbl; have HSZ := Lib.hid hsz
    clear hbx hbx' hbl hsz
    go_wp2_with fail
    refine HTO.out.mono ?_
    rintro e w1 ⟨⟨ck, cs, cm, cn, cx, rfl, hcx⟩, hb1⟩
    have HBY := Lib.hid (HBX.out w1 hb1 (.cells #[.int .i64 ck, .int .i64 0, .string cs, .int .i64 cm] 39))
    have HB1 := Lib.hid hb1; clear hb1 HBX
    go_wp2_with (first | ((with_reducible show wpList _ _ _ ({ dst := none, op := Op.store 28 (.tmp 3) (.tmp _), type := _, pos := _, after := _, guard := _ } :: _) _ _); (refine wpList_storeW rfl 28 _ _ rfl G rfl _ _ rfl _ HBY.out (by kernel_rfl) (by rfl) (by rfl) ?_); intro w2 hr2 hg2))
    rw [Exit.noGoto_ret, HN.out]
    have hGw : G ≤ wr.heap.size := HSZ.out ▸ HBL.out.size
    have hG1 : G ≤ w1.heap.size := Nat.le_trans hGw HB1.out.size
    refine bodyPost_ret (results_lex G rfl rfl hr2) rfl ⟨⟨_, _, rfl, hcx⟩, HSZ.out ▸ ((bAfter HBL.out hGw HB1.out).alloc hG1 _).grown hg2 (Nat.le_of_lt (Array.getElem?_eq_some_iff.1 HBY.out).1) (fun k hk => by cases hk; omega)⟩
   | some p =>
    obtain ⟨t, n⟩ := p
    rw [htk] at hto hlx
    obtain ⟨-, hn1, hn2⟩ := tok_right htk
    have hn := lex_next HR.out (by rw [hd, hlx, ← List.drop_drop, hd]; rfl)
    have hto' : Calls Tryz.prog 25 #[.string (str (b :: r))] wr fun e w' => e = .returned (.tuple #[.agg #[.int .i64 t.kind, .int .i64 0, .string (str t.word), .int .i64 t.n], .int .i64 (n : Int), .int .i64 0]) ∧ Below wr.heap.size wr w' := hto
    obtain ⟨hsz, hbl, hrow, hbx⟩ := HI.out
    have HTO := Lib.hid hto'; have HN := Lib.hid hn
    have HBX := Lib.hid hbx; have HBL := Lib.hid hbl; have HSZ := Lib.hid hsz; have HRW := Lib.hid hrow
    rw [HLEN.out] at hn2
    clear hto hto' hn hlx HR HI hsz hbl hrow hbx HLEN
    obtain ⟨kk, ww, nn⟩ := t
    go_wp2_with fail
    refine HTO.out.mono ?_
    rintro e w1 ⟨rfl, hb1⟩
    have HGW := Lib.hid (show G ≤ wr.heap.size from HSZ.out ▸ HBL.out.size)
    have HG1 := Lib.hid (show G ≤ w1.heap.size from Nat.le_trans HGW.out hb1.size)
    have HB1 := Lib.hid (bAfter HBL.out HGW.out hb1)
    have HR1 := Lib.hid (HRW.out.next hb1)
    have HX1 := Lib.hid (block_below HBX.out hb1)
    clear hb1 HTO HRW HBX HBL HGW
    have HR3 := Lib.hid ((HR1.out.alloc (.cells #[.int .i64 kk, .int .i64 (k : Int), .string (str ww), .int .i64 nn] 39)).alloc (.cells #[.int .i64 kk, .int .i64 (k : Int), .string (str ww), .int .i64 nn] 39))
    have HX3 := Lib.hid (heap_alloc (heap_alloc HX1.out (.cells #[.int .i64 kk, .int .i64 (k : Int), .string (str ww), .int .i64 nn] 39)) (.cells #[.int .i64 kk, .int .i64 (k : Int), .string (str ww), .int .i64 nn] 39))
    have hs3 : ((w1.alloc (.cells #[.int .i64 kk, .int .i64 (k : Int), .string (str ww), .int .i64 nn] 39)).alloc (.cells #[.int .i64 kk, .int .i64 (k : Int), .string (str ww), .int .i64 nn] 39)).heap.size = w1.heap.size + 1 + 1 := by simp
    have HB3 := Lib.hid ((HB1.out.alloc HG1.out (.cells #[.int .i64 kk, .int .i64 (k : Int), .string (str ww), .int .i64 nn] 39)).alloc (by rw [show (w1.alloc (.cells #[.int .i64 kk, .int .i64 (k : Int), .string (str ww), .int .i64 nn] 39)).heap.size = w1.heap.size + 1 by simp]; have := HG1.out; omega) (.cells #[.int .i64 kk, .int .i64 (k : Int), .string (str ww), .int .i64 nn] 39))
    have HG3 := Lib.hid (show ((w1.alloc (.cells #[.int .i64 kk, .int .i64 (k : Int), .string (str ww), .int .i64 nn] 39)).alloc (.cells #[.int .i64 kk, .int .i64 (k : Int), .string (str ww), .int .i64 nn] 39)).heap[w1.heap.size + 1]? = some (.cells #[.int .i64 kk, .int .i64 (k : Int), .string (str ww), .int .i64 nn] 39) from (congrArg (fun n => ((w1.alloc (.cells #[.int .i64 kk, .int .i64 (k : Int), .string (str ww), .int .i64 nn] 39)).alloc (.cells #[.int .i64 kk, .int .i64 (k : Int), .string (str ww), .int .i64 nn] 39)).heap[n]?) (by simp)).trans (World.alloc_heap_new _ _))
    have HS3 := Lib.hid hs3
    clear hs3 HR1 HX1 HB1
    go_wp2_with (at_builtin; (refine wpList_pushG rfl _ _ 33 39 rfl (.agg #[.int .i64 0, .int .i64 0, .string ⟨#[]⟩, .int .i64 0]) 40 Tryz.underlying33 (by kernel_rfl) (by rfl) (show 0 < 4 by decide) G G (w1.heap.size + 1) (keep_tok G) _ acc (⟨kk, ww, nn⟩, k) _ rfl HR3.out rfl HG3.out ⟨rfl, trivial⟩ (by unfold maxLen; omega) (by omega) (Nat.le_refl _) (by rw [HS3.out]; have := HG1.out; omega) ?_); intro v' wz hrz hbz hgz hkz; have HRZ := Lib.hid hrz; have HBZ := Lib.hid (HB3.out.trans hbz); have HXZ := Lib.hid (hkz 28 (by decide) _ _ HX3.out); clear hrz hbz hgz hkz)
    go_roundw
    case rel => exact ⟨k + n, acc ++ [(⟨kk, ww, nn⟩, k)], by omega, by rw [List.length_append, List.length_singleton]; omega, by go_num, ⟨HSZ.out, HBZ.out, HRZ.out, HXZ.out⟩, HN.out⟩
    case measure => simp [Lib.intOf]; omega
  ·rw [List.drop_eq_nil_of_le (by omega)] at hr
   have hn : lexF l 0 = some acc := by rw [hr, lexF_nil]; simp
   have HN := Lib.hid hn
   obtain ⟨hsz, hbl, hrow, hbx⟩ := hI
   have HBX := Lib.hid hbx; have HBL := Lib.hid hbl; have HSZ := Lib.hid hsz; have HRW := Lib.hid hrow
   clear hbx hbl hsz hn hr hrow
   go_wp2_with (first | ((with_reducible show wpList _ _ _ ({ dst := none, op := Op.store 28 (.tmp 3) (.tmp _), type := _, pos := _, after := _, guard := _ } :: _) _ _); (refine wpList_storeW rfl 28 _ _ rfl G rfl _ _ rfl _ HBX.out (by kernel_rfl) (by rfl) (by rfl) ?_); intro w2 hr2 hg2))
   rw [Exit.noGoto_ret, HN.out]
   refine bodyPost_ret (results_lex G rfl rfl hr2) rfl ⟨⟨_, rfl, ?_⟩, HSZ.out ▸ HBL.out.grown hg2 (Nat.le_of_lt (Array.getElem?_eq_some_iff.1 HBX.out).1) (fun k hk => by cases hk; omega)⟩
   rw [HSZ.out]
   exact HRW.out.same (fun _ _ h => h) (KeepTy.grown hg2 (fun g e => by cases e; exact NotTy.of HBX.out (by decide)))
end Go.Proofs.YtokghjnkfabgiaaGreatDoor
