/- The tables that are laid. -/
import Derived.Test.YtcldjplopgmjgaaDoorRows
import Derived.Test.YtcldjplopgmjgaaDoorPxG
import Derived.Test.YtcldjplopgmjgaaDoorFirst
import Derived.LaidSub
import Derived.LaidHandle
import Derived.LaidLaws
import Derived.HandedShaped
import Derived.ChangeCalls
import Derived.ChangeVars
import Derived.LaidMore
namespace Go.Proofs.YtcldjplopgmjgaaDoor
open Go Go.Px Go.ChangeShapes Go.RowKit

def laid3 : List (String × DataW Unit) := [("math/bits.deBruijn32tab", Rows.laid_math_bits_deBruijn32tab), ("math/bits.deBruijn64tab", Rows.laid_math_bits_deBruijn64tab), ("internal/strconv.uint64pow10", Rows.laid_internal_strconv_uint64pow10)]

theorem tab_of_laid {W : World} (h : laidMetH Tryd.prog laid3 W) : Lib.TabIs Tryd.prog W "internal/strconv.uint64pow10" .u64 Lib.pow10Tab := by
  have h1 := h.filter (fun x => x.1 == "internal/strconv.uint64pow10")
  have e : laid3.filter (fun x => x.1 == "internal/strconv.uint64pow10") = [("internal/strconv.uint64pow10", Lib.tabData .u64 Lib.pow10Tab)] := by kernel_rfl
  rw [e] at h1
  have h2 := (laidMetH_iff.1 h1).1
  have e2 : ([("internal/strconv.uint64pow10", Lib.tabData .u64 Lib.pow10Tab)] : List (String × DataW Unit)).filter (fun x => x.2.handleName?.isNone) = [("internal/strconv.uint64pow10", Lib.tabData .u64 Lib.pow10Tab)] := by kernel_rfl
  rw [e2] at h2
  exact Lib.tabIs_of_head (g := 0) (t := 93) (e := 83) (n := 20) (by kernel_rfl) (by kernel_rfl) (by kernel_rfl) (by kernel_rfl) (by kernel_rfl) (by kernel_rfl) h2

theorem own : ownKnob Tryd.prog.godebug = none := by kernel_rfl
theorem door_met (os : Os) (args : Array Value) : laidMetH Tryd.prog laid3 ((World.doorLaid Tryd.prog 400 os).forCall (fun _ _ => 0) ⟨#[], args, []⟩).memory :=
  laidMetH_of_parts3 (fuel := 8) (laidMet_of_run' 8 (by kernel_rfl) (by kernel_rfl)) (by kernel_rfl) (by kernel_rfl)

end Go.Proofs.YtcldjplopgmjgaaDoor
