import Derived.Test.YtokghjnkfabgiaaGreatDoorTD41
import Derived.Test.YtokghjnkfabgiaaGreatDoorCards
import Derived.Test.YtokghjnkfabgiaaGreatDoorTie
import Derived.Stop.LaidErr
import Derived.Lib.LaidTab
import Derived.Deep.DeepHandedRow
import Derived.Deep.DeepWitnessRowRef
import Derived.Deep.DeepLaidRun
import Derived.PinnedBridge
import Derived.ProofKit
set_option linter.unusedVariables false
set_option linter.unusedSimpArgs false
set_option maxRecDepth 100000
namespace Go.Proofs.YtokghjnkfabgiaaGreatDoor
open Go.ChangeShapes Go.WideShapes Go.ChangeAt Go.RowKit

theorem gSpace : Tryz.prog.globalNamed "strings.asciiSpace" = some 0 := by kernel_rfl
theorem gSpaceT : (Tryz.prog.globals[0]?).map (·.type) = some 118 := by kernel_rfl
theorem gPow : Tryz.prog.globalNamed "internal/strconv.uint64pow10" = some 5 := by kernel_rfl
theorem gPowT : (Tryz.prog.globals[5]?).map (·.type) = some 187 := by kernel_rfl
theorem gErr : Tryz.prog.globalNamed "strconv.ErrRange" = some 7 := by kernel_rfl
theorem gErrT : (Tryz.prog.globals[7]?).map (·.type) = some 111 := by kernel_rfl
theorem space_same : (Rows.laid_strings_asciiSpace : DataW Unit) = Lib.tabData .u8 Lib.asciiSpaceTab := by kernel_rfl
theorem pow_same : (Rows.laid_internal_strconv_uint64pow10 : DataW Unit) = Lib.tabData .u64 Lib.pow10Tab := by kernel_rfl
theorem maxlen_shaped {W : World} (h : W.ShapedOpen Tryz.prog) : ∃ m, W.cell? ⟨2, 0, none⟩ = some (.int .i64 m) := by
 obtain ⟨h1, _⟩ := h
 obtain ⟨cs, hc, hsz, hok⟩ := h1 2 #[.int .i64 0] 3 (of_decide_eq_true (by kernel_rfl)) (by kernel_rfl)
 obtain ⟨ts, hts, _, hcell⟩ := hok (by kernel_rfl)
 have hts' : Tryz.prog.cellTypes Tryz.prog.depth 3 = some [3] := by kernel_rfl
 rw [hts'] at hts
 cases hts
 have hsz1 : cs.size = 1 := hsz
 have h0 : cs[0]? = some (cs[0]'(by omega)) := Array.getElem?_eq_getElem (by omega)
 obtain ⟨u, hu, hv⟩ := hcell 0 _ h0
 have hu' : u = 3 := by simpa using hu.symm
 subst hu'
 have hun : Tryz.prog.underlying 3 = some (.int .i64) := by kernel_rfl
 generalize cs[0]'(by omega) = v at h0 hv
 unfold Cell.ok at hv
 rw [hun] at hv
 cases v with
 | int k n =>
  obtain ⟨rfl, _⟩ := hv
  refine ⟨n, ?_⟩
  simp [World.cell?, hc, h0]
 | _ => exact hv.elim
theorem starE : "*" ++ "errors.errorString" = "*errors.errorString" := by decide
theorem rowES (u : TypeId) (h : Tryz.prog.typeName? 3 u = some "*errors.errorString") : u = 264 :=
 typeName_ptr_named (nm := "errors.errorString") (by rw [starE]; kernel_rfl) (by kernel_rfl) (by decide) u (by rw [starE]; exact h)
theorem cellsU8 : Tryz.prog.cellsOf 5 = 1 := by kernel_rfl
theorem cells256 : Tryz.prog.cellsOf 118 = 256 := by kernel_rfl
theorem cellsU64 : Tryz.prog.cellsOf 150 = 1 := by kernel_rfl
theorem cells20 : Tryz.prog.cellsOf 187 = 20 := by kernel_rfl
theorem cellsES : Tryz.prog.cellsOf 266 = 1 := by kernel_rfl
theorem cellsStr : Tryz.prog.cellsOf 9 = 1 := by kernel_rfl
theorem tab_laid {W : World} (hL : laidMetH Tryz.prog Rows.topSpelledRow.laid W) (hsh : W.ShapedOpen Tryz.prog) : TabT W := by
 have h0 : laidMet Tryz.prog [("math/bits.deBruijn32tab", Rows.laid_math_bits_deBruijn32tab), ("math/bits.deBruijn64tab", Rows.laid_math_bits_deBruijn64tab), ("internal/strconv.uint64pow10", Rows.laid_internal_strconv_uint64pow10), ("unicode/utf8.acceptRanges", Rows.laid_unicode_utf8_acceptRanges), ("strconv.ErrRange", Rows.laid_strconv_ErrRange), ("strconv.ErrSyntax", Rows.laid_strconv_ErrSyntax), ("unicode.White_Space", Rows.laid_unicode_White_Space), ("strings.asciiSpace", Rows.laid_strings_asciiSpace), ("unicode/utf8.first", Rows.laid_unicode_utf8_first)] W := hL
 have h2 := h0.tail.tail
 have h4 := h2.tail.tail
 have h7 := h4.tail.tail.tail
 rw [pow_same] at h2
 rw [space_same] at h7
 obtain ⟨a0, s0, hv0, -, -, -⟩ := laid_sentinel h4 gErr gErrT Tryz.underlying111 rowES Tryz.underlying264 Tryz.underlying266 rfl rfl Tryz.underlying9 cellsES cellsStr
 exact ⟨Lib.tabIs_of_head gSpace gSpaceT Tryz.underlying118 Tryz.underlying5 cellsU8 cells256 h7, Lib.tabIs_of_head gPow gPowT Tryz.underlying187 Tryz.underlying150 cellsU64 cells20 h2, maxlen_shaped hsh, _, by have h0 := World.var?_cell gErr hv0 0; simpa using h0, .inr ⟨_, _, rfl⟩⟩
noncomputable def laidWorld (os : Os) : World :=
 let N := (World.settled Tryz.prog os).heap.size
 let w0 := World.holding Tryz.prog os ⟨#[.cells (Lib.whiteT.map fun (z : Nat) => Value.int .u16 (z : Int)).toArray 197, .cells #[.slice (some ⟨N, 0, none⟩) 7 7, .slice none 0 0, .int .i64 2] 194,
  .cells #[.string ⟨#[118, 97, 108, 117, 101, 32, 111, 117, 116, 32, 111, 102, 32, 114, 97, 110, 103, 101]⟩] 266, .cells #[.string ⟨#[105, 110, 118, 97, 108, 105, 100, 32, 115, 121, 110, 116, 97, 120]⟩] 266], #[], []⟩
 let put (h : Array Obj) (g : Nat) (cs : Array Value) : Array Obj := h.modify g fun
  | .cells _ t frozen => .cells cs t frozen
  | o => o
 let h1 := put w0.heap 0 (Lib.asciiSpaceTab.map fun z => Value.int .u8 z).toArray
 let h2 := put h1 3 (Lib.firstTab.map fun z => Value.int .u8 z).toArray
 let h3 := put h2 4 ((List.range 16).flatMap fun i => [Value.int .u8 (Lib.accLo i), Value.int .u8 (Lib.accHi i)]).toArray
 let h4 := put h3 1 #[.pointer (some ⟨N + 1, 0, none⟩)]
 let h5 := put h4 5 (Lib.pow10Tab.map fun z => Value.int .u64 z).toArray
 let h6 := put h5 7 #[.iface 264 (.pointer (some ⟨N + 2, 0, none⟩))]
 let h7 := put h6 6 #[.iface 264 (.pointer (some ⟨N + 3, 0, none⟩))]
 let h8 := put h7 8 ([0, 1, 28, 2, 29, 14, 24, 3, 30, 22, 20, 15, 25, 17, 4, 8, 31, 27, 13, 23, 21, 19, 16, 7, 26, 12, 18, 6, 11, 5, 10, 9].map fun z => Value.int .u8 z).toArray
 let h9 := put h8 9 ([0, 1, 56, 2, 57, 49, 28, 3, 61, 58, 42, 50, 38, 29, 17, 4, 62, 47, 59, 36, 45, 43, 51, 22, 53, 39, 33, 30, 24, 18, 12, 5, 63, 55, 48, 27, 60, 41, 37, 16, 46, 35, 44, 21, 52, 32, 23, 11, 54, 26, 40, 15, 34, 20, 31, 10, 25, 14, 19, 9, 13, 8, 7, 6].map fun z => Value.int .u8 z).toArray
 { w0 with heap := h9 }
set_option maxRecDepth 1000000 in
theorem laid_met (os : Os) (args : Array Value) : laidMet Tryz.prog Rows.topSpelledRow.laid ((laidWorld os).forCall (fun _ _ => 0) ⟨#[], args, []⟩).memory :=
 laidMet_of_run3 10 (by kernel_rfl) (by kernel_rfl) (by kernel_rfl)
end Go.Proofs.YtokghjnkfabgiaaGreatDoor
