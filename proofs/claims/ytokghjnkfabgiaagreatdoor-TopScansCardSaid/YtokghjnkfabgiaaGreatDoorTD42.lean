import Derived.Test.YtokghjnkfabgiaaGreatDoorTD31
import Derived.Test.YtokghjnkfabgiaaGreatDoorTD41
import Derived.Laws.IdiomStrings
import Derived.Test.YtokghjnkfabgiaaGreatDoorTD30
set_option linter.unusedVariables false
set_option linter.unusedSimpArgs false
set_option maxRecDepth 100000
namespace Go.Proofs.YtokghjnkfabgiaaGreatDoor
open Go.RowKit Go.Lib
attribute [local go_sem] str_size str_get str_toList
attribute [local go_sem high] run_str_add

theorem conv_one (w : World) (G c : Nat) (b : Nat) (hb : b < 256) (h : w.cell? ⟨G, 0, none⟩ = some (.int .u8 (b : Int))) : (convert 53 9 (.slice (some ⟨G, 0, none⟩) 1 c)).run Tryz.prog w = .ok (.string (str [UInt8.ofNat b])) w := by
 have := run_convert_bytes_back (P := Tryz.prog) w 53 9 5 ⟨G, 0, none⟩ c [UInt8.ofNat b] Tryz.underlying53 Tryz.underlying5 Tryz.underlying9 (fun j hj => by
  have hj0 : j = 0 := by simp at hj; omega
  subst hj0
  have e : (⟨G, 0, none⟩ : Addr).add 0 = ⟨G, 0, none⟩ := rfl
  rw [e, h]
  congr 2
  simp
  omega)
 exact this
theorem u8_add (r : Nat) : (48 : UInt8) + UInt8.ofNat r = UInt8.ofNat (48 + r) := by
 rw [UInt8.ofNat_add]; rfl
theorem digits_len {n : Nat} (h : n ≤ 9223372036854775807) : (decDigits n).length ≤ 20 := dec_len 19 n (by omega)
set_option maxHeartbeats 4000000 in
theorem wdec_nat (w : World) (n : Nat) (hn : n ≤ 9223372036854775807) : Calls Tryz.prog 17 #[.int .i64 (n : Int)] w fun e w' => e = .returned (.string (str (decDigits n))) ∧ Below w.heap.size w w' := by
 have q0 : ((n : Int) == -9223372036854775808) = false := by rw [beq_eq_false_iff_ne]; omega
 have q1 : decide ((n : Int) < 0) = false := decide_eq_false (by omega)
 have hdl := digits_len hn
 go_enter Tryz.func17, Tryz.ntmps17
 go_upto_region 5 with fail
 clear q0 q1
 go_upto_region 6 with fail
 go_loopw [0, 3] (fun v0 v3 wr => ∃ (m : Nat) (s : Str), v0 = .int .i64 (m : Int) ∧ v3 = .string (str s) ∧ m ≤ n ∧ decDigits n = decDigits m ++ s ∧ Below w.heap.size w wr) (fun v0 v3 wr => (Lib.intOf v0).toNat)
 case atStart => exact ⟨n, [], rfl, rfl, Nat.le_refl _, (List.append_nil _).symm, Below.refl _ _⟩
 case round =>
  obtain ⟨m, s, rfl, rfl, hm, hs, hb⟩ := hrel
  have hsl : s.length ≤ 20 := by
   have := congrArg List.length hs
   rw [List.length_append] at this
   omega
  have HS := Lib.hid hs; have HB := Lib.hid hb
  clear hs hb
  by_cases h9 : 9 < m
  ·have q : decide (9 < (m : Int)) = true := decide_eq_true (by omega)
   have e10 : (m : Int).tmod 10 = ((m % 10 : Nat) : Int) := by rw [Int.tmod_eq_emod_of_nonneg (by omega)]; omega
   have e11 : (m : Int).tdiv 10 = ((m / 10 : Nat) : Int) := by rw [Int.tdiv_eq_ediv_of_nonneg (by omega)]; omega
   obtain ⟨r, hr⟩ : ∃ r, m % 10 = r := ⟨_, rfl⟩
   rw [hr] at e10
   have hr10 : r < 10 := by omega
   have hcv : (convert 53 9 (.slice (some ⟨wr.heap.size, 0, none⟩) 1 1)).run Tryz.prog (wr.alloc (.cells #[.int .u8 (48 + (r : Int))] 5)) = .ok (.string (str [UInt8.ofNat (48 + r)])) (wr.alloc (.cells #[.int .u8 (48 + (r : Int))] 5)) :=
    conv_one _ _ _ (48 + r) (by omega) (by rw [cell_of_row _ wr.heap.size 0 _ _ _ (World.alloc_heap_new wr _)]; simp)
   go_wp2_with fail
   refine ⟨⟨m / 10, UInt8.ofNat (48 + r) :: s, by congr 1, ?_, by omega, ?_, HB.out.alloc HB.out.size _⟩, by simp [Lib.intOf]; omega⟩
   ·rw [← u8_add r, str_append]; rfl
   ·rw [HS.out, decDigits, dif_neg (by omega), hr]
    simp
  ·have q : decide (9 < (m : Int)) = false := decide_eq_false (by omega)
   have hcv : (convert 53 9 (.slice (some ⟨wr.heap.size, 0, none⟩) 1 1)).run Tryz.prog (wr.alloc (.cells #[.int .u8 (48 + (m : Int))] 5)) = .ok (.string (str [UInt8.ofNat (48 + m)])) (wr.alloc (.cells #[.int .u8 (48 + (m : Int))] 5)) :=
    conv_one _ _ _ (48 + m) (by omega) (by rw [cell_of_row _ wr.heap.size 0 _ _ _ (World.alloc_heap_new wr _)]; simp)
   go_wp2_with fail
   go_ret
   refine ⟨?_, HB.out.alloc HB.out.size _⟩
   rw [HS.out, decDigits, dif_pos (by omega), ← u8_add m]
   rfl
theorem wdec_pos (w : World) (n : Int) (h0 : 0 ≤ n) (h1 : n ≤ 9223372036854775807) : Calls Tryz.prog 17 #[.int .i64 n] w fun e w' => e = .returned (.string (str (numStr n))) ∧ Below w.heap.size w w' := by
 have h := wdec_nat w n.toNat (by omega)
 rw [show ((n.toNat : Nat) : Int) = n from by omega] at h
 unfold numStr
 rw [if_neg (by omega)]
 exact h
theorem numStr_lenM (n : Int) (h : -1000 ≤ n ∧ n ≤ 9223372036854775807) : (numStr n).length ≤ 21 := by
 unfold numStr
 split
 ·have := digits_len (n := n.natAbs) (by omega)
  simp
  omega
 ·have := digits_len (n := n.toNat) (by omega)
  omega
def sidesS (l : List Int) (s : Str) : Str := l.foldl (fun s n => s ++ (32 :: numStr n)) s
theorem sidesX_fold : ∀ (l : List Int) (s t : Str), sidesS l s ++ t = s ++ sidesX (l.map fun n => (⟨[], n⟩ : SidP)) t
 | [], s, t => by simp [sidesS, sidesX]
 | n :: l, s, t => by
  show sidesS l (s ++ (32 :: numStr n)) ++ t = _
  rw [sidesX_fold l]
  show _ = s ++ (32 :: (spellT (sideT ⟨[], n⟩) ++ sidesX (l.map fun n => (⟨[], n⟩ : SidP)) t))
  have e : spellT (sideT ⟨[], n⟩) = numStr n := rfl
  rw [e]
  simp
theorem input_fold (l : List Int) : sidesS l (kwIn ++ (32 :: nmX)) ++ [10] = inputX l := by
 rw [sidesX_fold]
 unfold inputX
 simp
set_option maxHeartbeats 4000000 in
theorem winput_any (w : World) (v : Value) (s : List Int) (hs : SlA w v s) (h4 : s.length ≤ 4) (hb : ∀ x ∈ s, 0 ≤ x ∧ x ≤ 65536) : Calls Tryz.prog 14 #[.string (str nmX), v] w fun e w' => e = .returned (.string (str (inputX s))) ∧ Below w.heap.size w w' := by
 obtain ⟨a, c, rfl⟩ := hs.form'
 have HS := Lib.hid hs; have HB := Lib.hid hb
 clear hs hb
 go_enter Tryz.func14, Tryz.ntmps14
 go_upto_region 3 with fail
 go_loopw [5, 12] (fun v5 v wr => ∃ (i : Nat) (u : Str), v5 = .string (str u) ∧ v = .int .i64 (i : Int) ∧ i ≤ s.length ∧ u = sidesS (s.take i) (kwIn ++ (32 :: nmX)) ∧ u.length ≤ 4 + 22 * i ∧ Below w.heap.size w wr) (fun v5 v wr => s.length - (Lib.intOf v).toNat)
 case atStart => exact ⟨0, _, rfl, rfl, Nat.zero_le _, rfl, by decide, Below.refl _ _⟩
 case round =>
  obtain ⟨i, u, rfl, rfl, hi, hu, hul, hbw⟩ := hrel
  by_cases hil : i < s.length
  ·have q : decide ((i : Int) < (s.length : Int)) = true := decide_eq_true (by omega)
   obtain ⟨ib, io, rfl, i0⟩ : ∃ ib io, a = some ⟨ib, io, none⟩ ∧ wr.cell? ⟨ib, io + i, none⟩ = some (.int .i64 s[i]) := by
    obtain ⟨a', c', e, _, _, _, hi', _⟩ := HS.out
    simp only [Value.slice.injEq] at e
    obtain ⟨rfl, -, -⟩ := e
    obtain ⟨b, f, ha, hc⟩ := hi' i hil
    exact ⟨b, f, ha, keepCell hbw hc⟩
   have hx := HB.out _ (List.getElem_mem hil)
   have hu2 : u ++ (32 :: numStr s[i]) = sidesS (s.take (i + 1)) (kwIn ++ (32 :: nmX)) := by
    unfold sidesS at hu ⊢
    rw [List.take_succ_eq_append_getElem hil, List.foldl_append, ← hu]
    rfl
   generalize s[i] = x at i0 hx hu2
   have hdc := wdec_pos wr x hx.1 (by omega)
   have hxl := numStr_lenM x (by omega)
   generalize numStr x = nx at hdc hu2 hxl
   have HD := Lib.hid hdc; have HU := Lib.hid hu2; have HBW := Lib.hid hbw
   clear hdc hu hu2 hbw
   go_wp2_with (go_at_call 17; refine HD.out.mono ?_; rintro e w1 ⟨rfl, hb1⟩)
   refine ⟨⟨i + 1, _, ?_, by go_num, by omega, HU.out, by simp; omega, HBW.out.trans (hb1.mono HBW.out.size)⟩, by simp [Lib.intOf]; omega⟩
   rw [show (⟨#[32]⟩ : ByteArray) = str [32] from rfl, str_append, str_append]
   rfl
  ·obtain rfl : i = s.length := by omega
   have q : decide ((s.length : Int) < (s.length : Int)) = false := decide_eq_false (by omega)
   rw [List.take_length] at hu
   have HU := Lib.hid hu; have HBW := Lib.hid hbw
   clear hu hbw
   go_wp2_with fail
   go_ret
   refine ⟨?_, HBW.out⟩
   show Ending.returned (.string (str u ++ ⟨#[10]⟩)) = _
   rw [show (⟨#[10]⟩ : ByteArray) = str [10] from rfl, str_append, HU.out, input_fold]
def vFn (f : Nat) : Int := if f % 4 = 0 then 1 else if f % 4 = 1 then 3 else if f % 4 = 2 then 6 else 7
theorem vFn_four (f : Nat) : Four (vFn f) := by
 unfold vFn Four
 split
 ·simp
 ·split
  ·simp
  ·split <;> simp
set_option maxHeartbeats 4000000 in
theorem wverb_any (w : World) (f : Nat) (hf : f < 256) : Calls Tryz.prog 15 #[.int .u8 (f : Int)] w fun e w' => e = .returned (.string (str (fourW (vFn f)))) ∧ Below w.heap.size w w' := by
 have e4 : (f : Int).tmod 4 = ((f % 4 : Nat) : Int) := by rw [Int.tmod_eq_emod_of_nonneg (by omega)]; omega
 obtain ⟨r, hr⟩ : ∃ r, f % 4 = r := ⟨_, rfl⟩
 have hv : fourW (vFn f) = [[43], [42], [109, 105, 110], [109, 97, 120]].getD r [] := by
  have h4 : r = 0 ∨ r = 1 ∨ r = 2 ∨ r = 3 := by omega
  unfold vFn
  rw [hr]
  rcases h4 with e | e | e | e <;> subst e <;> rfl
 have h4 : r < 4 := by omega
 rw [hr] at e4
 rw [hv]
 have e4' : (f : Int) % 4 = (r : Int) := by omega
 clear hv hr hf
 have hz := (Below.refl w.heap.size w).alloc (Nat.le_refl _) (.cells #[.string (str [43]), .string (str [42]), .string (str [109, 105, 110]), .string (str [109, 97, 120])] 9)
 have hc := World.alloc_heap_new w (.cells #[.string (str [43]), .string (str [42]), .string (str [109, 105, 110]), .string (str [109, 97, 120])] 9)
 have hx : (w.alloc (.cells #[.string ⟨#[43]⟩, .string ⟨#[42]⟩, .string ⟨#[109, 105, 110]⟩, .string ⟨#[109, 97, 120]⟩] 9)).cell? ⟨w.heap.size, r, none⟩ = some (.string (str ([[43], [42], [109, 105, 110], [109, 97, 120]].getD r []))) := by
  rw [show (w.alloc (.cells #[.string ⟨#[43]⟩, .string ⟨#[42]⟩, .string ⟨#[109, 105, 110]⟩, .string ⟨#[109, 97, 120]⟩] 9)) = (w.alloc (.cells #[.string (str [43]), .string (str [42]), .string (str [109, 105, 110]), .string (str [109, 97, 120])] 9)) from rfl, cell_of_row _ w.heap.size r _ _ _ hc]
  have h5 : r = 0 ∨ r = 1 ∨ r = 2 ∨ r = 3 := by omega
  rcases h5 with e | e | e | e <;> subst e <;> rfl
 have HZ := Lib.hid hz
 obtain ⟨y, hy⟩ : ∃ y : Str, [[43], [42], [109, 105, 110], [109, 97, 120]].getD r [] = y := ⟨_, rfl⟩
 rw [hy] at hx ⊢
 clear hz hc hy
 go_enter Tryz.func15, Tryz.ntmps15
 go_wp2_with fail
 go_ret
 exact ⟨rfl, HZ.out⟩
end Go.Proofs.YtokghjnkfabgiaaGreatDoor

namespace Go.Proofs.YtokghjnkfabgiaaGreatDoor
open Go.RowKit Go.Lib
attribute [local go_sem] str_size str_get str_toList
attribute [local go_sem high] run_str_add

set_option maxHeartbeats 4000000 in
theorem wfair_any (w : World) (v u : Value) (s d : List Int) (hs : SlA w v s) (hd : SlA w u d) : Calls Tryz.prog 12 #[.agg #[v, u]] w fun e w' => e = .returned (.bool (right s d)) ∧ Below w.heap.size w w' := by
 obtain ⟨a0, c0, rfl, h1, h2, h3, h4, h5⟩ := hs
 obtain ⟨a1, c1, rfl, g1, -⟩ := hd
 have hb : Below w.heap.size w (w.alloc (.cells #[.slice a0 s.length c0, .slice a1 d.length c1] 44)) := (Below.refl _ _).alloc (Nat.le_refl _) _
 have hx := World.alloc_heap_new w (.cells #[.slice a0 s.length c0, .slice a1 d.length c1] 44)
 have hq := rright_any (w.alloc (.cells #[.slice a0 s.length c0, .slice a1 d.length c1] 44)) a0 a1 c0 c1 s d (by omega) (h4.below hb (Nat.le_refl _))
 have HQ := Lib.hid hq; have HB := Lib.hid hb; have HX := Lib.hid hx
 clear hq hb hx h4 h5
 unfold maxLen at h2
 cases hr : right s d with
 | false =>
  rw [hr] at HQ
  clear hr
  go_enter Tryz.func12, Tryz.ntmps12
  go_wp2_with (go_at_call 31; refine HQ.out.mono ?_; rintro e w1 ⟨rfl, hb1⟩; have k0 := cell_of_row _ w.heap.size 0 _ _ _ (block_below HX.out hb1))
  go_ret
  exact ⟨rfl, HB.out.trans (hb1.mono HB.out.size)⟩
 | true =>
  have hs4 := (right_good hr).2.len
  rw [hr] at HQ
  clear hr
  go_enter Tryz.func12, Tryz.ntmps12
  go_wp2_with (go_at_call 31; refine HQ.out.mono ?_; rintro e w1 ⟨rfl, hb1⟩; have k0 := cell_of_row _ w.heap.size 0 _ _ _ (block_below HX.out hb1))
  go_ret
  exact ⟨by show Ending.returned (.bool (decide ((s.length : Int) ≤ 4))) = _; rw [decide_eq_true (by omega)], HB.out.trans (hb1.mono HB.out.size)⟩
theorem name_len16 {s : Str} (h : VV.name s = true) : s.length ≤ 16 := by
 rcases RR.name s h with ⟨_, _, b, q, _, _, _, hl⟩ | ⟨hk, _⟩ | ⟨hk, _⟩ | hk
 ·exact hl
 ·exact absurd (show (1 : Int) = 2 from hk) (by decide)
 ·exact absurd (show (1 : Int) = 3 from hk) (by decide)
 ·exact absurd (congrArg Tk.kind hk) (show ¬ (1 : Int) = 4 by decide)
theorem post_names {P : Int → Prop} : ∀ (e : Ex), e.fine VV P → ∀ it ∈ e.post, it.name.length ≤ 1000
 | .num l, _, it, h => by cases List.mem_singleton.1 h; simp
 | .nam s, hf, it, h => by cases List.mem_singleton.1 h; have := name_len16 hf; dsimp only; omega
 | .mon i e, hf, it, h => by
  rcases List.mem_append.1 h with h | h
  ·exact post_names e hf.2 it h
  ·cases List.mem_singleton.1 h; rw [hf.1.1]; simp
 | .dy i a b, hf, it, h => by
  rcases List.mem_append.1 h with h | h
  ·rcases List.mem_append.1 h with h | h
   ·exact post_names a hf.2.1 it h
   ·exact post_names b hf.2.2 it h
  ·cases List.mem_singleton.1 h; rw [hf.1.1]; simp
theorem lines_fine {PI : Itm → Prop} {T : PrgT} (h : FineT VV T) (h2 : ∀ x ∈ T.post.lines, x.items.length ≤ 256) (hP : ∀ l ∈ T.post.lines, ∀ it ∈ l.items, PI it) : ∀ l ∈ T.post.lines, l.name.length ≤ 1000 ∧ l.items.length ≤ 300 ∧ ∀ it ∈ l.items, it.name.length ≤ 1000 ∧ PI it := by
 intro l hl
 have hPl := hP l hl
 have hi := h2 l hl
 rw [show T.post.lines = T.lines.map (fun x => (⟨x.1, x.2.post⟩ : LinP)) ++ [⟨[], T.out.post⟩] from rfl] at hl
 rcases List.mem_append.1 hl with hl | hl
 ·obtain ⟨x, hx, rfl⟩ := List.mem_map.1 hl
  obtain ⟨hn, he⟩ := h.lines x hx
  have := name_len16 hn
  exact ⟨by dsimp only; omega, by omega, fun it hit => ⟨post_names x.2 he.1 it hit, hPl it hit⟩⟩
 ·cases List.mem_singleton.1 hl
  exact ⟨by simp, by omega, fun it hit => ⟨post_names T.out h.out.1 it hit, hPl it hit⟩⟩
set_option maxHeartbeats 8000000 in
theorem wmeans_any {PI : Itm → Prop} (HOK : ItemOK PI) (w : World) (ht : TabT w) (T : PrgT) (hT : FineT VV T) (s d : List Int) (hTi : T.inputs = sidesIn s) (X : Str) (hX : T.text2 LL = X) (hl : X.length ≤ 60000)
  (ab ao ac : Nat) (av au : Value) (hc0 : w.cell? ⟨ab, ao, none⟩ = some av) (hc1 : w.cell? ⟨ab, ao + 1, none⟩ = some au) (hs : SlA w av s) (hd : SlA w au d) (hr : right s d = true) (outs : List AryP) (hL : LinesA (putA (fun _ => none) nmX (s, d)) 0 T.post.lines outs)
  (hol : ∀ a ∈ outs, a.1.length ≤ 1048576 ∧ a.2.length ≤ 1048576) (hon : outs.length ≤ 64) (hPI : ∀ l ∈ T.post.lines, ∀ it ∈ l.items, PI it) :
  Calls Tryz.prog 13 #[.string (str X), .slice (some ⟨ab, ao, none⟩) 1 ac] w fun e w' => ∃ v B0, e = .returned (.tuple #[v, .bool true]) ∧ w.heap.size ≤ B0 ∧ StkI B0 B0 w' v outs ∧ Below w.heap.size w w' := by
 obtain ⟨q, hq, hp⟩ := read2 KK RR hT (by rw [hX]; omega)
 rw [hX] at hq
 obtain ⟨hin, ⟨hi64, hl64⟩, -, hi256⟩ := parsed_facts (parsed_right hq hp)
 have hlf := lines_fine hT hi256 hPI
 have hsh := show_prog KK hT
 have hpp := parse_any X w ht (by omega)
 have e0 : ((lexP X).bind fun q => parseP VV (bare q)) = some T.post := by rw [hq]; exact hp
 rw [e0] at hpp
 have hpi : T.post = ⟨[⟨nmX, numSides s⟩], T.post.lines⟩ := by
  show (⟨T.inputs, _⟩ : PrgP) = _
  rw [hTi]
  rfl
 have hpi1 : T.post.inputs = [⟨nmX, numSides s⟩] := by rw [hpi]
 generalize T.text LL = S at hsh
 generalize T.post = P at hpp hin hi64 hl64 hlf hsh hpi hpi1 hL hPI
 obtain ⟨inputs, lines⟩ := P
 dsimp only at hpi1 hL hl64 hlf
 subst hpi1
 have HPP := Lib.hid hpp; have HT := Lib.hid ht; have HIN := Lib.hid hin; have HLF := Lib.hid hlf; have HSH := Lib.hid hsh; have HL := Lib.hid hL; have HOL := Lib.hid hol; have HSA := Lib.hid hs; have HSD := Lib.hid hd; have HC0 := Lib.hid hc0; have HC1 := Lib.hid hc1; have HR := Lib.hid hr
 clear hpp ht hin hlf hsh hL hol hs hd hc0 hc1 hr hq hp hi256 e0 hpi hX hT hTi hi64 hPI
 go_enter Tryz.func13, Tryz.ntmps13
 go_wp2_with (go_at_call 6; fail)
 refine HPP.out.mono ?_
 rintro _ w1 ⟨hb1, iv0, lv0, fa0, fx0, rfl, rfl, rfl, hr0, hr1⟩
 have hr0 : RowG inpR w.heap.size 79 w1 iv0 [⟨nmX, numSides s⟩] := hr0
 have hr1 : RowG linR w.heap.size 67 w1 lv0 lines := hr1
 obtain ⟨a0, c0, rfl⟩ := hr0.form
 obtain ⟨a1, c1, rfl⟩ := hr1.form
 rw [show ([⟨nmX, numSides s⟩] : List InpP).length = 1 from rfl] at hr0 ⊢
 have hbd : Below w1.heap.size w1 ((w1.alloc (.cells #[.slice a0 1 c0, .slice a1 lines.length c1] 25)).alloc (.cells #[.int .i64 0, .int .i64 0] 28)) := ((Below.refl _ _).alloc (Nat.le_refl _) _).alloc (by simp) _
 obtain ⟨x5, x6⟩ := new2 (Below.refl _ ((w1.alloc (.cells #[.slice a0 1 c0, .slice a1 lines.length c1] 25)).alloc (.cells #[.int .i64 0, .int .i64 0] 28)))
 have hbx : BxI w w1.heap.size (w1.heap.size + 1) (.slice a0 1 c0) (.slice a1 lines.length c1) 0 0 ((w1.alloc (.cells #[.slice a0 1 c0, .slice a1 lines.length c1] 25)).alloc (.cells #[.int .i64 0, .int .i64 0] 28)) := ⟨hb1.trans (hbd.mono hb1.size), x5, x6⟩
 have HBX := Lib.hid hbx; have HR0 := Lib.hid (hr0.next hbd); have HR1 := Lib.hid (hr1.next hbd)
 clear hbx hbd x5 x6 hr0 hr1 hb1 HPP
 dsimp only
 go_upto_region 2 with fail
 refine gen_worldA (fun W => (BxI w w1.heap.size (w1.heap.size + 1) (.slice a0 1 c0) (.slice a1 lines.length c1) 0 0 W ∧ RowG inpR w.heap.size 79 W (.slice a0 1 c0) [⟨nmX, numSides s⟩]) ∧ RowG linR w.heap.size 67 W (.slice a1 lines.length c1) lines) ⟨⟨HBX.out, HR0.out⟩, HR1.out⟩ ?_
 clear HBX HR0 HR1
 generalize w1.heap.size + 1 = y7
 generalize w1.heap.size = y6
 rintro W ⟨⟨hbx, hr0⟩, hr1⟩
 have hb := hbx.below
 have hmn := mean_any HOK W (HT.out.below hb) _ _ nmX s d lines hr0 hr1 HIN.out S HSH.out ab ao ac av au (keepCell hb HC0.out) (keepCell hb HC1.out) (HSA.out.below hb) (HSD.out.below hb) HR.out outs HL.out hl64 HLF.out HOL.out hon
 have k60 := cell_of_row _ y6 0 _ _ _ hbx.b5
 have k61 := cell_of_row _ y6 1 _ _ _ hbx.b5
 have HBX := Lib.hid hbx; have HMN := Lib.hid hmn
 clear hbx hr0 hr1 hb hmn
 go_wp2_with (go_at_call 32; fail)
 refine HMN.out.mono ?_
 rintro e w2 ⟨v2, rfl, hs2, hb2⟩
 obtain ⟨a2, n2, c2, rfl⟩ : ∃ a n c, v2 = .slice a n c := by obtain ⟨a, c, e⟩ := hs2.form; exact ⟨_, _, _, e⟩
 have hd2 : Below w2.heap.size w2 (w2.alloc (.cells #[.int .i64 0, .int .i64 0] 28)) := (Below.refl _ _).alloc (Nat.le_refl _) _
 have h9 := World.alloc_heap_new w2 (.cells #[.int .i64 0, .int .i64 0] 28)
 have HBX2 := Lib.hid ((HBX.out.next hb2).next hd2); have HS2 := Lib.hid (RowG.next hs2 hd2); have H9 := Lib.hid h9; have HSZ := Lib.hid HBX.out.below.size
 clear k60 k61 hs2 hb2 hd2 h9 HMN HBX
 dsimp only
 go_upto_region 3 with fail
 generalize w2.alloc (.cells #[.int .i64 0, .int .i64 0] 28) = W5 at HBX2 HS2 H9 ⊢
 generalize w2.heap.size = y9 at H9 ⊢
 have x0 := cell_of_row _ y7 0 _ _ _ HBX2.out.b6
 have x1 := cell_of_row _ y7 1 _ _ _ HBX2.out.b6
 have x2 := cell_of_row _ y9 0 _ _ _ H9.out
 have x3 := cell_of_row _ y9 1 _ _ _ H9.out
 have f0 := cellBW x0
 have f1 := cellBW x1
 have f2 := cellBW x2
 have f3 := cellBW x3
 clear x0 x1 x2 x3
 refine wp_region_below (by kernel_rfl) (by kernel_rfl) ?_
 repeat (go_big_quiet_step (fail))
 refine wpQuiet_nil ?_
 rintro wq ⟨⟨W8, hwq⟩, rfl⟩
 have HF := Lib.hid (And.intro (RowG.next HS2.out hwq) (HBX2.out.below.trans (hwq.mono HBX2.out.below.size)))
 clear f0 f1 f2 f3 hwq HS2 HBX2 H9
 go_wp2_with fail
 refine bodyPost_ret (v := .tuple #[.slice a2 n2 c2, .bool true]) (results_t2 rfl _ _ rfl rfl) rfl ?_
 exact ⟨_, _, rfl, HSZ.out, HF.out.1, HF.out.2⟩
def begT : PrgT := ⟨sidesIn [3], [], .mon ⟨5, 1, [], []⟩ (.nam nmX)⟩
theorem beg_fine : FineT VV begT := ⟨in_right (by decide) (by intro x hx; cases List.mem_singleton.1 hx; decide), fun x hx => (by cases hx), ⟨⟨four_vi (.inl rfl) 5 (.inl rfl), nmX_name⟩, show (2 + 1 : Nat) ≤ 255 by decide, show (0 : Nat) ≤ 32 by decide⟩, show (1 + 0 + 1 : Nat) ≤ 64 by decide⟩
def begX : Str := [105, 110, 32, 120, 32, 51, 10, 111, 117, 116, 32, 43, 47, 32, 120]
theorem beg_text : begT.text2 LL = begX := by decide +kernel
theorem beg_eval : LinesA (putA (fun _ => none) nmX ([3], [1, 2, 3])) 0 begT.post.lines [([], [6])] := by
 have hi : ∀ x ∈ ([3] : List Int), In64 x := by intro x hx; cases List.mem_singleton.1 hx; unfold In64; omega
 have hd : ∀ x ∈ ([1, 2, 3] : List Int), In64 x := by intro x hx; simp at hx; unfold In64; omega
 have e1 : EvalTo (putA (fun _ => none) nmX ([3], [1, 2, 3])) (.nam nmX) ([3], [1, 2, 3]) 3 := eval_nam (a := ([3], [1, 2, 3])) (by unfold putA; rw [if_pos rfl]) ⟨hi, hd⟩
 have hf : foldA 1 [3] [1, 2, 3] = okA [] [6] := by decide +kernel
 have a1 := eval_mon (i := ⟨5, 1, [], []⟩) (v := ([], [6])) e1 (top_fold hf) ⟨fun x hx => (by cases hx), by intro x hx; cases List.mem_singleton.1 hx; unfold In64; omega⟩
 exact lines_cons a1 (by decide) rfl
theorem beg_world (w : World) : ∀ W, W = (((w.alloc (.cells #[.int .i64 3] 2)).alloc (.cells #[.int .i64 1, .int .i64 2, .int .i64 3] 2)).alloc (.cells #[.slice (some ⟨w.heap.size, 0, none⟩) 1 1, .slice (some ⟨w.heap.size + 1, 0, none⟩) 3 3] 44)) →
  Below w.heap.size w W ∧ SlA W (.slice (some ⟨w.heap.size, 0, none⟩) 1 1) [3] ∧ SlA W (.slice (some ⟨w.heap.size + 1, 0, none⟩) 3 3) [1, 2, 3] ∧
   W.cell? ⟨w.heap.size + 1 + 1, 0, none⟩ = some (.slice (some ⟨w.heap.size, 0, none⟩) 1 1) ∧ W.cell? ⟨w.heap.size + 1 + 1, 0 + 1, none⟩ = some (.slice (some ⟨w.heap.size + 1, 0, none⟩) 3 3) := by
 rintro W rfl
 obtain ⟨w1, e1⟩ : ∃ w1, w1 = w.alloc (.cells #[.int .i64 3] 2) := ⟨_, rfl⟩
 have i1 : IntsAt .i64 w1 (some ⟨w.heap.size, 0, none⟩) [3] := by rw [e1]; exact IntsAt.lit .i64 w 2 [3]
 have b1 : Below w.heap.size w w1 := by rw [e1]; exact (Below.refl _ _).alloc (Nat.le_refl _) _
 have z1 : w1.heap.size = w.heap.size + 1 := by rw [e1]; simp
 rw [← e1]
 obtain ⟨w2, e2⟩ : ∃ w2, w2 = w1.alloc (.cells #[.int .i64 1, .int .i64 2, .int .i64 3] 2) := ⟨_, rfl⟩
 have i2 : IntsAt .i64 w2 (some ⟨w1.heap.size, 0, none⟩) [1, 2, 3] := by rw [e2]; exact IntsAt.lit .i64 w1 2 [1, 2, 3]
 have b2 : Below w1.heap.size w1 w2 := by rw [e2]; exact (Below.refl _ _).alloc (Nat.le_refl _) _
 have z2 : w2.heap.size = w.heap.size + 1 + 1 := by rw [e2, ← z1]; simp
 rw [← e2]
 have h3 := World.alloc_heap_new w2 (.cells #[.slice (some ⟨w.heap.size, 0, none⟩) 1 1, .slice (some ⟨w.heap.size + 1, 0, none⟩) 3 3] 44)
 rw [z2] at h3
 have b3 : Below w2.heap.size w2 (w2.alloc (.cells #[.slice (some ⟨w.heap.size, 0, none⟩) 1 1, .slice (some ⟨w.heap.size + 1, 0, none⟩) 3 3] 44)) := (Below.refl _ _).alloc (Nat.le_refl _) _
 rw [z1] at i2
 refine ⟨b1.trans ((b2.trans (b3.mono b2.size)).mono b1.size), ⟨_, 1, rfl, by decide, by decide, (fun e => by cases e), (i1.below b2 (Nat.le_refl _)).below b3 (Nat.le_refl _), ?_⟩, ⟨_, 3, rfl, by decide, by decide, (fun e => by cases e), i2.below b3 (Nat.le_refl _), ?_⟩, cell_of_row _ _ 0 _ _ _ h3, cell_of_row _ _ 1 _ _ _ h3⟩
 ·intro x hx; cases List.mem_singleton.1 hx; unfold In64; omega
 ·intro x hx; simp at hx; unfold In64; omega
theorem beg_items {PI : Itm → Prop} (h2 : ∀ it : Itm, it.how = 2 → PI it) (h5 : ∀ it : Itm, it.how = 5 → PI it) : ∀ l ∈ begT.post.lines, ∀ it ∈ l.items, PI it := by
 intro l hl it hit
 have hl : l ∈ [(⟨[], [⟨2, 0, nmX, []⟩, ⟨5, 1, [], []⟩]⟩ : LinP)] := hl
 cases List.mem_singleton.1 hl
 have hit : it ∈ [(⟨2, 0, nmX, []⟩ : Itm), ⟨5, 1, [], []⟩] := hit
 simp only [List.mem_cons, List.not_mem_nil, or_false] at hit
 rcases hit with rfl | rfl
 ·exact h2 _ rfl
 ·exact h5 _ rfl
set_option maxHeartbeats 8000000 in
theorem wbegun_any {PI : Itm → Prop} (HOK : ItemOK PI) (h2 : ∀ it : Itm, it.how = 2 → PI it) (h5 : ∀ it : Itm, it.how = 5 → PI it) (w : World) (ht : TabT w) : Calls Tryz.prog 11 #[] w fun e w' => e = .returned (.bool true) ∧ Below w.heap.size w w' := by
 obtain ⟨hb, hs, hd, hc0, hc1⟩ := beg_world w _ rfl
 have hm := wmeans_any HOK _ (ht.below hb) begT beg_fine [3] [1, 2, 3] rfl begX beg_text (by decide) (w.heap.size + 1 + 1) 0 1 _ _ hc0 hc1 hs hd (by decide +kernel) [([], [6])] beg_eval (by intro a ha; cases List.mem_singleton.1 ha; decide) (by decide) (beg_items h2 h5)
 have HM := Lib.hid hm; have HB := Lib.hid hb
 clear hb hs hd hc0 hc1 hm ht
 go_enter Tryz.func11, Tryz.ntmps11
 go_wp2_with (go_at_call 13; fail)
 refine HM.out.mono ?_
 rintro e w1 ⟨v, B0, rfl, -, hs1, hb1⟩
 have HB1 := Lib.hid (HB.out.trans (hb1.mono HB.out.size))
 obtain ⟨a, c, rfl⟩ := hs1.form
 obtain ⟨g, v1, u1, rfl, -, hv1, hu1, k0, k1⟩ := stk_at hs1 0 (by decide)
 obtain ⟨ua, uc, rfl, -, -, -, hi, -⟩ := hu1.sl
 obtain ⟨ub, uo, rfl, k6⟩ := hi 0 (by decide)
 have k1 : w1.cell? ⟨g, 1, none⟩ = some (.slice (some ⟨ub, uo, none⟩) 1 uc) := k1
 have k6 : w1.cell? ⟨ub, uo, none⟩ = some (.int .i64 6) := k6
 clear hb1 HM HB hv1 hu1 hi k0 hs1
 rw [show ([([], [6])] : List AryP).length = 1 from rfl]
 dsimp only
 go_wp2_with fail
 go_ret
 exact ⟨rfl, HB1.out⟩
end Go.Proofs.YtokghjnkfabgiaaGreatDoor
