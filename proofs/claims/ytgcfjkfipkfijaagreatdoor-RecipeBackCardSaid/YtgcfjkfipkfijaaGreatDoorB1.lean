/- From the row's condition to what the walks ask; a start that meets it. -/
import Derived.Test.YtgcfjkfipkfijaaGreatDoorRows
import Derived.Test.YtgcfjkfipkfijaaGreatDoorCards
import Derived.Test.YtgcfjkfipkfijaaGreatDoorTie
import Derived.Test.YtgcfjkfipkfijaaGreatDoorTabs
import Derived.ProofKit
import Derived.Deep.DeepHandedRow
import Derived.Deep.DeepWitnessRowRef
import Derived.Lib.LaidU8
import Derived.LaidMore
import Derived.JoinedOf
import Derived.JoinedCond
import Derived.SevenTiedAt
namespace Go.Proofs.YtgcfjkfipkfijaaGreatDoor
open Go Go.RowKit Go.ChangeShapes Go.WideShapes
open Go.Lib (VarReads)

def laids : List (String × DataW Unit) := [("math/bits.deBruijn32tab", Rows.laid_math_bits_deBruijn32tab), ("math/bits.deBruijn64tab", Rows.laid_math_bits_deBruijn64tab), ("internal/strconv.uint64pow10", Rows.laid_internal_strconv_uint64pow10), ("unicode/utf8.acceptRanges", Rows.laid_unicode_utf8_acceptRanges), ("unicode/utf8.first", Rows.laid_unicode_utf8_first)]
theorem own : ownKnob Tryz.prog.godebug = none := by kernel_rfl
theorem laidOut : laidOutB Tryz.prog = true := by kernel_rfl
/-- A world that meets the condition: what start-up lays, and the pinned table. -/
noncomputable def laidWorld (os : Os) : World :=
  let w0 := World.doorLaid Tryz.prog 34 os
  { w0 with heap := w0.heap.modify 0 fun
      | .cells _ t frozen => .cells (Lib.firstTab.map fun z => Value.int .u8 z).toArray t frozen
      | o => o }
set_option maxRecDepth 100000 in
theorem laid_met (os : Os) (args : Array Value) : laidMetH Tryz.prog laids ((laidWorld os).forCall (fun _ _ => 0) ⟨#[], args, []⟩).memory :=
  laidMetH_of_parts3 (fuel := 8) (laidMet_of_run' 8 (by kernel_rfl) (by kernel_rfl)) (by kernel_rfl) (by kernel_rfl)
theorem tabIs_of_reads {P : Program} {W : World} {name : String} {k : IntKind} {zs : List Int} {g : Nat} {t e : TypeId} {n : Nat}
    (hg : P.globalNamed name = some g) (hty : (P.globals[g]?).map (·.type) = some t) (ht : P.underlying t = some (.array n e)) (he : P.underlying e = some (.int k)) (hce : P.cellsOf e = 1) (hct : P.cellsOf t = n)
    (h : VarReads P W name (Lib.tabData k zs)) : Lib.TabIs P W name k zs := by
  obtain ⟨g', t', cs, fuel, p, hg', ht', hvar, hd⟩ := h
  obtain rfl := Option.some.inj (hg.symm.trans hg')
  obtain rfl := Option.some.inj (hty.symm.trans ht')
  unfold Lib.TabIs
  rw [hvar, ← Lib.cells_of_tab ht he hce hct hd]
theorem var_lt {P : Program} {W : World} {n : String} {g : Nat} {cs : Array Value} (hg : P.globalNamed n = some g) (h : W.var? P n = some cs) : g < W.heap.size := by
  unfold World.var? at h
  rw [hg] at h
  simp only [Option.bind_some] at h
  cases hh : W.heap[g]? with
  | none => rw [hh] at h; simp at h
  | some o => exact (Array.getElem?_eq_some_iff.1 hh).1
theorem laid_plain {W : World} (h : laidMetH Tryz.prog laids W) : laidMet Tryz.prog laids W := by
  rw [MakeChecks.laidMetH_plain _ _ _ (by kernel_rfl)] at h
  exact h
theorem first_eq : Rows.laid_unicode_utf8_first = Lib.firstData := by kernel_rfl
theorem accept_eq : (Rows.laid_unicode_utf8_acceptRanges : DataW Unit) = Lib.acceptData := by kernel_rfl
theorem pow_eq : (Rows.laid_internal_strconv_uint64pow10 : DataW Unit) = Lib.tabData .u64 Lib.pow10Tab := by kernel_rfl
theorem pow_type : (Tryz.prog.globals[3]?).map (·.type) = some 179 := by kernel_rfl
theorem pow_under : Tryz.prog.underlying 179 = some (.array 20 141) := by kernel_rfl
theorem u64_under : Tryz.prog.underlying 141 = some (.int .u64) := by kernel_rfl
theorem u64_cells : Tryz.prog.cellsOf 141 = 1 := by kernel_rfl
theorem pow_cells : Tryz.prog.cellsOf 179 = 20 := by kernel_rfl
theorem deb_global : Tryz.prog.globalNamed "math/bits.deBruijn64tab" = some 5 := by kernel_rfl
theorem u8_extra : U8Extra Tryz.prog Tryz.lays260_ren := ⟨by kernel_rfl, by kernel_rfl, by kernel_rfl, by kernel_rfl, by kernel_rfl, by kernel_rfl, by kernel_rfl⟩
/-- What a walk asks of the library's tables: out of the row's condition and the world's shape. -/
theorem tabs_of {W : World} (hL0 : laidMetH Tryz.prog laids W) (hsh : W.ShapedOpen Tryz.prog) : Tabs W := by
  have hL := laid_plain hL0
  refine ⟨?_, ?_, ?_, ?_⟩
  · exact utf8Tabs_of_reads Tryz.lays260 u8_extra (first_eq ▸ Lib.laidMet.reads hL (.tail _ (.tail _ (.tail _ (.tail _ (.head _)))))) (accept_eq ▸ Lib.laidMet.reads hL (.tail _ (.tail _ (.tail _ (.head _)))))
  · exact Tryz.laysM219.s1_3 W hsh
  · exact tabIs_of_reads pow_global pow_type pow_under u64_under u64_cells pow_cells (pow_eq ▸ Lib.laidMet.reads hL (.tail _ (.tail _ (.head _))))
  · obtain ⟨g, t, cs, fuel, p, h1, h2, h3, h4⟩ := Lib.laidMet.reads hL (.tail _ (.head _))
    obtain rfl := Option.some.inj (deb_global.symm.trans h1)
    exact var_lt h1 h3
end Go.Proofs.YtgcfjkfipkfijaaGreatDoor
