/- What is asked first of all is answered. -/
import Derived.Test.YtcldjplopgmjgaaDoorPrim
namespace Go.Proofs.YtcldjplopgmjgaaDoor
open Go Go.Px

theorem mixed : Tryd.prog.follows .mixedOrders = true := by kernel_rfl

theorem first_run : (evF tab prim 200 5 [] [] (some [])).map (fun p => p.1) = some (.d (.b true)) := by kernel_rfl

theorem first_ok {W : World} (htab : Lib.TabIs Tryd.prog W "internal/strconv.uint64pow10" .u64 Lib.pow10Tab) : CA ⟨Tryd.prog, W⟩ 5 (([] : List DV).map .d) [] none (fun r _ _ => r = .d (.b true)) := by
  have h := first_run
  rw [Option.map_eq_some_iff] at h
  obtain ⟨⟨v, U, H⟩, h, e⟩ := h
  simp only at e
  subst e
  exact CA.reckoned (drawOk mixed) (tabOk W) (prim_ok htab) (ds := []) rfl h rfl

end Go.Proofs.YtcldjplopgmjgaaDoor
