import Derived.Test.YtiogopichcnihaaJ0
import Derived.Test.YtiogopichcnihaaRows1
import Derived.Test.YtiogopichcnihaaKeep
namespace Go.Proofs.Ytiogopichcnihaa
set_option maxRecDepth 100000
open Go.RowKit
set_option linter.unusedVariables false
set_option linter.unusedSimpArgs false

/-! Rows of bytes of the call's own; image.number, image.high and the reference's. -/
def RowU (B : Nat) (w : World) (v : Value) (xs : List Int) : Prop := w.ownsRow B 5 1 v xs.length (xs.map (Value.int .u8))
theorem Try.infoU8 : (Try.prog.info? 5).map (fun i => (i.zero, i.size, i.bytes)) = some (some (.int .u8 0), 1, 1) := by kernel_rfl
/-- from w with the row v to w' with the row v': what has turned is v's block alone -/
structure Grew (w : World) (v : Value) (w' : World) (v' : Value) : Prop where
  grown : w.grownBy w' v.ownBlock
  newer : Newer w v v'
theorem Grew.refl (w : World) (v : Value) : Grew w v w v := ⟨⟨rfl, rfl, rfl, Nat.le_refl _, fun _ _ _ => rfl⟩, .inl rfl⟩
theorem Grew.trans {w w1 w2 : World} {v v1 v2 : Value} (h : Grew w v w1 v1) (k : Grew w1 v1 w2 v2) : Grew w v w2 v2 := by
  refine ⟨⟨k.grown.os.trans h.grown.os, k.grown.tape.trans h.grown.tape, k.grown.output.trans h.grown.output, Nat.le_trans h.grown.size k.grown.size, fun g hg hne => ?_⟩, ?_⟩
  · refine (k.grown.block g (Nat.lt_of_lt_of_le hg h.grown.size) (fun e => ?_)).trans (h.grown.block g hg hne)
    rcases h.newer with e1 | ⟨q, e1, hq⟩
    · exact hne (e.trans e1)
    · rw [e1] at e; cases e; omega
  · rcases k.newer with e1 | ⟨q, e1, hq⟩
    · rcases h.newer with e2 | ⟨q, e2, hq⟩
      · exact .inl (e1.trans e2)
      · exact .inr ⟨q, e1.trans e2, hq⟩
    · exact .inr ⟨q, e1, Nat.le_trans h.grown.size hq⟩
/-- what turned nothing of w's, between -/
theorem Grew.below {w w1 w2 : World} {v v1 : Value} (h : Grew w v w1 v1) (k : Below w1.heap.size w1 w2) : Grew w v w2 v1 :=
  h.trans ⟨⟨k.os, k.tape, k.output, k.size, fun g hg _ => k.block g hg⟩, .inl rfl⟩
theorem Grew.toBelow {w w' : World} {v v' : Value} {B : Nat} (h : Grew w v w' v') (hB : B ≤ w.heap.size) (hv : ∀ g, v.ownBlock = some g → B ≤ g) : Below B w w' := (Below.refl B w).grown h.grown hB hv
theorem RowU.ge {B : Nat} {w : World} {v : Value} {xs : List Int} (h : RowU B w v xs) : ∀ g, v.ownBlock = some g → B ≤ g := fun g e => (World.ownsRow.lt h g e).1
theorem RowU.below {B : Nat} {w w' : World} {v : Value} {xs : List Int} (h : RowU B w v xs) (hb : Below w.heap.size w w') : RowU B w' v xs := own_below h hb
theorem RowU.mono {B B' : Nat} {w : World} {v : Value} {xs : List Int} (h : RowU B w v xs) (hB : B' ≤ B) : RowU B' w v xs := by
  obtain ⟨h1, h2 | ⟨g, cap, cur, e, hb, h3⟩⟩ := h
  · exact ⟨h1, .inl h2⟩
  · exact ⟨h1, .inr ⟨g, cap, cur, e, Nat.le_trans hB hb, h3⟩⟩
theorem RowU.slice {B : Nat} {w : World} {v : Value} {xs : List Int} (h : RowU B w v xs) : ∃ a cap, v = .slice a xs.length cap ∧ xs.length ≤ cap ∧ xs.length ≤ maxLen ∧ IntsAt .u8 w a xs := by
  obtain ⟨h1, ⟨hv, hn⟩ | ⟨g, cap, cur, hv, hB, hg, hnc, hcm, hcs, ht⟩⟩ := h
  · have hx : xs = [] := List.eq_nil_of_length_eq_zero hn
    subst hx
    exact ⟨none, 0, hv, Nat.le_refl _, Nat.zero_le _, IntsAt.nil _ _ _⟩
  · refine ⟨some ⟨g, 0, none⟩, cap, hv, hnc, Nat.le_trans hnc hcm, fun i hi => ⟨g, 0, rfl, ?_⟩⟩
    rw [Nat.zero_add, cell_of_row w g i cur 5 (0, 0) hg]
    have : (cur.toList.take (xs.length * 1))[i]? = some (.int .u8 xs[i]) := by rw [ht]; simp [hi]
    rw [List.getElem?_take, if_pos (by omega)] at this
    simpa using this
theorem RowU.nil (B : Nat) (w : World) : RowU B w (.slice none 0 0) [] := World.ownsRow_nil w B 5 1
theorem src_lit1 (W : World) (cs : Array Value) (t : TypeId) (m : Nat) (news : List Value) (G : Nat) (hG : W.heap.size = G) (hn : news = cs.toList) : Src (W.alloc (.cells cs t)) (.slice (some ⟨G, 0, none⟩) m m) m news := by
  subst hG hn
  refine .inr ⟨_, _, rfl, fun j z hz => ?_⟩
  have e : (⟨W.heap.size, 0, none⟩ : Addr).add j = ⟨W.heap.size, j, none⟩ := by unfold Addr.add; split <;> simp_all
  rw [e, cell_of_row _ _ j _ _ _ (World.alloc_heap_new W _)]
  simpa using hz
theorem RowU.of {B n : Nat} {w : World} {v : Value} {xs : List Int} (h : w.ownsRow B 5 1 v n (xs.map (Value.int .u8))) : RowU B w v xs := by
  have h1 := h.1
  rw [List.length_map, Nat.mul_one] at h1
  subst h1
  exact h
theorem RowU.app {B n : Nat} {w : World} {v : Value} {xs : List Int} {y : Int} (h : w.ownsRow B 5 1 v n (xs.map (Value.int .u8) ++ [.int .u8 y])) : RowU B w v (xs ++ [y]) := by
  refine RowU.of (n := n) ?_
  rw [List.map_append]
  exact h
theorem numB_len : ∀ (k n : Nat), n < 128 ^ (k + 1) → (numB n).length ≤ k + 1
  | 0, n, h => by
    rw [numB, if_neg (by omega)]; simp
  | k + 1, n, h => by
    rw [numB]
    split
    · have h2 : n / 128 < 128 ^ (k + 1) := by
        rw [Nat.pow_succ] at h
        exact Nat.div_lt_of_lt_mul (by rw [Nat.mul_comm]; exact h)
      have := numB_len k (n / 128) h2
      simp only [List.length_cons]
      omega
    · simp
theorem numB_len9 {n : Nat} (h : n ≤ 9223372036854775807) : (numB n).length ≤ 9 := numB_len 8 n (by rw [show (128 : Nat) ^ (8 + 1) = 9223372036854775808 from rfl]; omega)
theorem numB_pos (n : Nat) : 1 ≤ (numB n).length := by rw [numB]; split <;> simp

theorem or128 (m : Nat) : bits BinOp.or IntKind.u8 ((m : Int) % 256) 128 = ((m % 128 + 128 : Nat) : Int) := by
  have h : ∀ k : Fin 256, bits BinOp.or IntKind.u8 ((k.1 : Nat) : Int) 128 = ((k.1 % 128 + 128 : Nat) : Int) := by decide +kernel
  have h1 := h ⟨m % 256, Nat.mod_lt _ (by omega)⟩
  dsimp only at h1
  rw [show ((m : Int) % 256) = ((m % 256 : Nat) : Int) from by omega, h1]
  congr 1
  omega

set_option maxHeartbeats 4000000 in
theorem number_any (w : World) (B : Nat) (v : Value) (xs : List Int) (n : Nat) (hn : n ≤ 9223372036854775807) (h : RowU B w v xs) (hB : B ≤ w.heap.size) (hl : xs.length ≤ 1099511627776) :
    Calls Try.prog 17 #[v, .int .i64 n] w fun e w' => ∃ v', e = .returned v' ∧ RowU B w' v' (xs ++ numB n) ∧ Grew w v w' v' := by
  have HR := Lib.hid h
  obtain ⟨i0, hi, hz0, hz1, hz2⟩ := info_parts Try.infoU8
  have Hi := Lib.hid hi; have Hz0 := Lib.hid hz0; have Hz1 := Lib.hid hz1; have Hz2 := Lib.hid hz2; clear hi hz0 hz1 hz2 h
  have h9 := numB_len9 hn
  go_enter Try.func17, Try.ntmps17
  go_wp2_with fail
  go_loopw [0, 1] (fun b q wr => ∃ (m : Nat) (ys : List Int), q = .int .i64 m ∧ m ≤ n ∧ numB n = ys ++ numB m ∧ RowU B wr b (xs ++ ys) ∧ Grew w v wr b) (fun _ q _ => (intOf q).toNat)
  case atStart => exact ⟨n, [], rfl, Nat.le_refl _, rfl, by rw [List.append_nil]; exact HR.out, Grew.refl _ _⟩
  case round =>
    obtain ⟨m, ys, rfl, hm, he, hrow, hg⟩ := hrel
    have hyl : ys.length ≤ 9 := by rw [he] at h9; simp at h9; omega
    have hrl : (xs ++ ys).length = xs.length + ys.length := List.length_append
    have HG := Lib.hid hg; have HE := Lib.hid he
    have hsz := hg.grown.size
    have HROW := Lib.hid hrow
    clear hrow hg he
    obtain ⟨zs, hz⟩ : ∃ zs, xs ++ ys = zs := ⟨_, rfl⟩
    rw [hz] at hrl HROW
    have HZ := Lib.hid hz
    clear hz
    by_cases hlt : 127 < m
    · have hnb : numB m = (((m % 128 + 128 : Nat) : Int)) :: numB (m / 128) := by rw [numB, if_pos hlt]
      have hbit : bits BinOp.or IntKind.u8 ((m : Int) % 256) 128 = ((m % 128 + 128 : Nat) : Int) := or128 m
      have hmI : (127 : Int) < (m : Int) := by omega
      have HNB := Lib.hid hnb; have HBT := Lib.hid hbit
      clear hnb hbit
      go_wp2_with (at_builtin; (refine wpList_append_src _ rfl _ _ 28 rfl B 5 i0 _ 1 1 Try.underlying28 Hi.out Hz0.out Hz1.out Hz2.out rfl (by decide) _ zs.length _ rfl (World.ownsRow.alloc HROW.out _) _ 1 [.int .u8 (bits BinOp.or IntKind.u8 ((m : Int) % 256) 128)] rfl (src_lit1 _ _ _ _ _ _ rfl rfl) rfl ?h1 (by unfold maxLen; omega) (by omega) (by simp; omega) ?_))
      case h1 => intro u hu; cases List.mem_singleton.1 hu; rfl
      intro v' w' hown hgr hnw
      rw [HBT.out] at hown
      have hrow' := RowU.app hown
      have hg' : Grew w v w' v' := (HG.out.below ((Below.refl _ _).alloc (Nat.le_refl _) _)).trans ⟨hgr, hnw⟩
      have HROW' := Lib.hid hrow'; have HG' := Lib.hid hg'
      clear hown hgr hnw hrow' hg'
      go_wp2_with fail
      go_roundw
      case rel => exact ⟨m / 128, ys ++ [((m % 128 + 128 : Nat) : Int)], by go_num, by omega, by rw [HE.out, HNB.out]; simp, by rw [← List.append_assoc, HZ.out]; exact HROW'.out, HG'.out⟩
      case measure => simp [intOf] <;> omega
    · have hnb : numB m = [(m : Int)] := by rw [numB, if_neg hlt]
      have hmI : (m : Int) ≤ 127 := by omega
      have HNB := Lib.hid hnb
      clear hnb
      go_wp2_with (at_builtin; (refine wpList_append_src _ rfl _ _ 28 rfl B 5 i0 _ 1 1 Try.underlying28 Hi.out Hz0.out Hz1.out Hz2.out rfl (by decide) _ zs.length _ rfl (World.ownsRow.alloc HROW.out _) _ 1 [.int .u8 (m : Int)] rfl (src_lit1 _ _ _ _ _ _ rfl rfl) rfl ?h1 (by unfold maxLen; omega) (by omega) (by simp; omega) ?_))
      case h1 => intro u hu; cases List.mem_singleton.1 hu; rfl
      intro v' w' hown hgr hnw
      have hrow' := RowU.app hown
      have hg' : Grew w v w' v' := (HG.out.below ((Below.refl _ _).alloc (Nat.le_refl _) _)).trans ⟨hgr, hnw⟩
      have HROW' := Lib.hid hrow'; have HG' := Lib.hid hg'
      clear hown hgr hnw hrow' hg'
      go_wp2_with fail
      go_ret
      exact ⟨_, rfl, by rw [HE.out, HNB.out, ← List.append_assoc, HZ.out]; exact HROW'.out, HG'.out⟩
set_option maxHeartbeats 4000000 in
theorem rnumber_any (w : World) (B : Nat) (v : Value) (xs : List Int) (n : Nat) (hn : n ≤ 9223372036854775807) (h : RowU B w v xs) (hB : B ≤ w.heap.size) (hl : xs.length ≤ 1099511627776) :
    Calls Try.prog 22 #[v, .int .i64 n] w fun e w' => ∃ v', e = .returned v' ∧ RowU B w' v' (xs ++ numB n) ∧ Grew w v w' v' := by
  have HR := Lib.hid h
  obtain ⟨i0, hi, hz0, hz1, hz2⟩ := info_parts Try.infoU8
  have Hi := Lib.hid hi; have Hz0 := Lib.hid hz0; have Hz1 := Lib.hid hz1; have Hz2 := Lib.hid hz2; clear hi hz0 hz1 hz2 h
  have h9 := numB_len9 hn
  go_enter Try.func22, Try.ntmps22
  go_wp2_with fail
  go_loopw [0, 1] (fun b q wr => ∃ (m : Nat) (ys : List Int), q = .int .i64 m ∧ m ≤ n ∧ numB n = ys ++ numB m ∧ RowU B wr b (xs ++ ys) ∧ Grew w v wr b) (fun _ q _ => (intOf q).toNat)
  case atStart => exact ⟨n, [], rfl, Nat.le_refl _, rfl, by rw [List.append_nil]; exact HR.out, Grew.refl _ _⟩
  case round =>
    obtain ⟨m, ys, rfl, hm, he, hrow, hg⟩ := hrel
    have hyl : ys.length ≤ 9 := by rw [he] at h9; simp at h9; omega
    have hrl : (xs ++ ys).length = xs.length + ys.length := List.length_append
    have HG := Lib.hid hg; have HE := Lib.hid he
    have hsz := hg.grown.size
    have HROW := Lib.hid hrow
    clear hrow hg he
    obtain ⟨zs, hz⟩ : ∃ zs, xs ++ ys = zs := ⟨_, rfl⟩
    rw [hz] at hrl HROW
    have HZ := Lib.hid hz
    clear hz
    by_cases hlt : 127 < m
    · have hnb : numB m = (((m % 128 + 128 : Nat) : Int)) :: numB (m / 128) := by rw [numB, if_pos hlt]
      have hbit : ((m : Int) % 128 + 128) = ((m % 128 + 128 : Nat) : Int) := by omega
      have hmI : (127 : Int) < (m : Int) := by omega
      have HNB := Lib.hid hnb; have HBT := Lib.hid hbit
      clear hnb hbit
      go_wp2_with (at_builtin; (refine wpList_append_src _ rfl _ _ 28 rfl B 5 i0 _ 1 1 Try.underlying28 Hi.out Hz0.out Hz1.out Hz2.out rfl (by decide) _ zs.length _ rfl (World.ownsRow.alloc HROW.out _) _ 1 [.int .u8 (((m : Int) % 128 + 128))] rfl (src_lit1 _ _ _ _ _ _ rfl rfl) rfl ?h1 (by unfold maxLen; omega) (by omega) (by simp; omega) ?_))
      case h1 => intro u hu; cases List.mem_singleton.1 hu; rfl
      intro v' w' hown hgr hnw
      rw [HBT.out] at hown
      have hrow' := RowU.app hown
      have hg' : Grew w v w' v' := (HG.out.below ((Below.refl _ _).alloc (Nat.le_refl _) _)).trans ⟨hgr, hnw⟩
      have HROW' := Lib.hid hrow'; have HG' := Lib.hid hg'
      clear hown hgr hnw hrow' hg'
      go_wp2_with fail
      go_roundw
      case rel => exact ⟨m / 128, ys ++ [((m % 128 + 128 : Nat) : Int)], by go_num, by omega, by rw [HE.out, HNB.out]; simp, by rw [← List.append_assoc, HZ.out]; exact HROW'.out, HG'.out⟩
      case measure => simp [intOf] <;> omega
    · have hnb : numB m = [(m : Int)] := by rw [numB, if_neg hlt]
      have hmI : (m : Int) ≤ 127 := by omega
      have HNB := Lib.hid hnb
      clear hnb
      go_wp2_with (at_builtin; (refine wpList_append_src _ rfl _ _ 28 rfl B 5 i0 _ 1 1 Try.underlying28 Hi.out Hz0.out Hz1.out Hz2.out rfl (by decide) _ zs.length _ rfl (World.ownsRow.alloc HROW.out _) _ 1 [.int .u8 (m : Int)] rfl (src_lit1 _ _ _ _ _ _ rfl rfl) rfl ?h1 (by unfold maxLen; omega) (by omega) (by simp; omega) ?_))
      case h1 => intro u hu; cases List.mem_singleton.1 hu; rfl
      intro v' w' hown hgr hnw
      have hrow' := RowU.app hown
      have hg' : Grew w v w' v' := (HG.out.below ((Below.refl _ _).alloc (Nat.le_refl _) _)).trans ⟨hgr, hnw⟩
      have HROW' := Lib.hid hrow'; have HG' := Lib.hid hg'
      clear hown hgr hnw hrow' hg'
      go_wp2_with fail
      go_ret
      exact ⟨_, rfl, by rw [HE.out, HNB.out, ← List.append_assoc, HZ.out]; exact HROW'.out, HG'.out⟩

/-! high -/
theorem high_shift (n k : Nat) : ((n / 256 ^ k % 256 : Nat) : Int) = ((n : Int) / 2 ^ (8 * k)) % 256 := by
  rw [show (256 : Nat) = 2 ^ 8 from rfl, ← Nat.pow_mul]
  simp

set_option maxHeartbeats 4000000 in
theorem high_any (w : World) (B : Nat) (v : Value) (xs : List Int) (n many : Nat) (hn : n ≤ 18446744073709551615) (hm : many ≤ 8) (h : RowU B w v xs) (hB : B ≤ w.heap.size) (hl : xs.length ≤ 1099511627776) :
    Calls Try.prog 20 #[v, .int .u64 n, .int .i64 many] w fun e w' => ∃ v', e = .returned v' ∧ RowU B w' v' (xs ++ highB n many) ∧ Grew w v w' v' := by
  have HR := Lib.hid h
  obtain ⟨i0, hi, hz0, hz1, hz2⟩ := info_parts Try.infoU8
  have Hi := Lib.hid hi; have Hz0 := Lib.hid hz0; have Hz1 := Lib.hid hz1; have Hz2 := Lib.hid hz2; clear hi hz0 hz1 hz2 h
  have h9 := highB_len n many
  go_enter Try.func20, Try.ntmps20
  go_wp2_with fail
  go_loopw [0, 7] (fun b q wr => ∃ (m : Nat) (ys : List Int), q = .int .i64 ((m : Int) - 1) ∧ m ≤ many ∧ highB n many = ys ++ highB n m ∧ RowU B wr b (xs ++ ys) ∧ Grew w v wr b) (fun _ q _ => (intOf q + 1).toNat)
  case atStart => exact ⟨many, [], by go_num, Nat.le_refl _, rfl, by rw [List.append_nil]; exact HR.out, Grew.refl _ _⟩
  case round =>
    obtain ⟨m, ys, rfl, hmm, he, hrow, hg⟩ := hrel
    have hyl : ys.length ≤ 8 := by rw [he] at h9; simp at h9; omega
    have hrl : (xs ++ ys).length = xs.length + ys.length := List.length_append
    have HG := Lib.hid hg; have HE := Lib.hid he
    have hsz := hg.grown.size
    have HROW := Lib.hid hrow
    clear hrow hg he
    obtain ⟨zs, hz⟩ : ∃ zs, xs ++ ys = zs := ⟨_, rfl⟩
    rw [hz] at hrl HROW
    have HZ := Lib.hid hz
    clear hz
    rcases m with _ | k
    · go_wp2_with fail
      go_ret
      exact ⟨_, rfl, by rw [HE.out, highB, List.append_nil, HZ.out]; exact HROW.out, HG.out⟩
    · have hq : (0 : Int) ≤ ((k + 1 : Nat) : Int) - 1 := by omega
      have hk1 : (((k + 1 : Nat) : Int) - 1) = (k : Int) := by omega
      have hk7 : k ≤ 7 := by omega
      rw [hk1]
      clear hq hk1
      go_wp2_with (at_builtin; (refine wpList_append_src _ rfl _ _ 28 rfl B 5 i0 _ 1 1 Try.underlying28 Hi.out Hz0.out Hz1.out Hz2.out rfl (by decide) _ zs.length _ rfl (World.ownsRow.alloc HROW.out _) _ 1 [.int .u8 _] rfl (src_lit1 _ _ _ _ _ _ rfl rfl) rfl ?h1 (by unfold maxLen; omega) (by omega) (by simp; omega) ?_))
      case h1 => intro u hu; cases List.mem_singleton.1 hu; rfl
      intro v' w' hown hgr hnw
      have hrow' := RowU.app hown
      have hg' : Grew w v w' v' := (HG.out.below ((Below.refl _ _).alloc (Nat.le_refl _) _)).trans ⟨hgr, hnw⟩
      have HROW' := Lib.hid hrow'; have HG' := Lib.hid hg'
      clear hown hgr hnw hrow' hg'
      go_wp2_with fail
      go_roundw
      case rel => exact ⟨k, ys ++ [((n / 256 ^ k % 256 : Nat) : Int)], by go_num, by omega, by rw [HE.out, highB]; simp, by rw [← List.append_assoc, HZ.out, high_shift]; exact HROW'.out, HG'.out⟩
      case measure => simp [intOf] <;> omega
set_option maxHeartbeats 4000000 in
theorem rhigh_any (w : World) (B : Nat) (v : Value) (xs : List Int) (n many : Nat) (hn : n ≤ 18446744073709551615) (hm : many ≤ 8) (h : RowU B w v xs) (hB : B ≤ w.heap.size) (hl : xs.length ≤ 1099511627776) :
    Calls Try.prog 25 #[v, .int .u64 n, .int .i64 many] w fun e w' => ∃ v', e = .returned v' ∧ RowU B w' v' (xs ++ highB n many) ∧ Grew w v w' v' := by
  have HR := Lib.hid h
  obtain ⟨i0, hi, hz0, hz1, hz2⟩ := info_parts Try.infoU8
  have Hi := Lib.hid hi; have Hz0 := Lib.hid hz0; have Hz1 := Lib.hid hz1; have Hz2 := Lib.hid hz2; clear hi hz0 hz1 hz2 h
  have h9 := highB_len n many
  go_enter Try.func25, Try.ntmps25
  go_wp2_with fail
  go_loopw [0, 7] (fun b q wr => ∃ (m : Nat) (ys : List Int), q = .int .i64 ((m : Int) - 1) ∧ m ≤ many ∧ highB n many = ys ++ highB n m ∧ RowU B wr b (xs ++ ys) ∧ Grew w v wr b) (fun _ q _ => (intOf q + 1).toNat)
  case atStart => exact ⟨many, [], by go_num, Nat.le_refl _, rfl, by rw [List.append_nil]; exact HR.out, Grew.refl _ _⟩
  case round =>
    obtain ⟨m, ys, rfl, hmm, he, hrow, hg⟩ := hrel
    have hyl : ys.length ≤ 8 := by rw [he] at h9; simp at h9; omega
    have hrl : (xs ++ ys).length = xs.length + ys.length := List.length_append
    have HG := Lib.hid hg; have HE := Lib.hid he
    have hsz := hg.grown.size
    have HROW := Lib.hid hrow
    clear hrow hg he
    obtain ⟨zs, hz⟩ : ∃ zs, xs ++ ys = zs := ⟨_, rfl⟩
    rw [hz] at hrl HROW
    have HZ := Lib.hid hz
    clear hz
    rcases m with _ | k
    · go_wp2_with fail
      go_ret
      exact ⟨_, rfl, by rw [HE.out, highB, List.append_nil, HZ.out]; exact HROW.out, HG.out⟩
    · have hq : (0 : Int) ≤ ((k + 1 : Nat) : Int) - 1 := by omega
      have hk1 : (((k + 1 : Nat) : Int) - 1) = (k : Int) := by omega
      have hk7 : k ≤ 7 := by omega
      rw [hk1]
      clear hq hk1
      go_wp2_with (at_builtin; (refine wpList_append_src _ rfl _ _ 28 rfl B 5 i0 _ 1 1 Try.underlying28 Hi.out Hz0.out Hz1.out Hz2.out rfl (by decide) _ zs.length _ rfl (World.ownsRow.alloc HROW.out _) _ 1 [.int .u8 _] rfl (src_lit1 _ _ _ _ _ _ rfl rfl) rfl ?h1 (by unfold maxLen; omega) (by omega) (by simp; omega) ?_))
      case h1 => intro u hu; cases List.mem_singleton.1 hu; rfl
      intro v' w' hown hgr hnw
      have hrow' := RowU.app hown
      have hg' : Grew w v w' v' := (HG.out.below ((Below.refl _ _).alloc (Nat.le_refl _) _)).trans ⟨hgr, hnw⟩
      have HROW' := Lib.hid hrow'; have HG' := Lib.hid hg'
      clear hown hgr hnw hrow' hg'
      go_wp2_with fail
      go_roundw
      case rel => exact ⟨k, ys ++ [((n / 256 ^ k % 256 : Nat) : Int)], by go_num, by omega, by rw [HE.out, highB]; simp, by rw [← List.append_assoc, HZ.out, high_shift]; exact HROW'.out, HG'.out⟩
      case measure => simp [intOf] <;> omega
end Go.Proofs.Ytiogopichcnihaa
