/- A weight is from 1 to 10000, and does not fall as the thousandths rise. Conditions: the package-level variables that the row lists hold what the program's text lays (the card ties them). -/
import Derived.Test.YtcldjplopgmjgaaDoorLaid
import Derived.Test.YtcldjplopgmjgaaDoorRise
import Derived.Test.YtcldjplopgmjgaaDoorCards
import Derived.Test.YtcldjplopgmjgaaDoorTie
import Derived.JoinedOf
import Derived.SevenTiedAt
namespace Go.Proofs.YtcldjplopgmjgaaDoor
open Go Go.Px Go.ChangeShapes Go.RowKit

theorem rise_lifted (os : Os) (started : os.Started) (H : Type) (enc : TypeId × Value → H) :
    ReturnsInHanded {} Tryd.checked os 3 .any (fun w args => (Rows.knobsRiseSpec.pre enc Tryd.prog Tryd.f3 [] false w args ∧ laidMetH Tryd.prog laid3 w) ∧ sizedMet enc Tryd.prog Tryd.f3 (OpenSpec.ofChange Rows.knobsRiseSpec) false w args)
      (Rows.knobsRiseSpec.post enc Tryd.prog Tryd.f3 false true false false) := by
  refine returnsInHanded_of_change_and (C := Tryd.checked) (X := fun w _ => laidMetH Tryd.prog laid3 w) (fun _ _ _ hh h => h.of_heap hh) own started (by kernel_rfl) Tryd.func3
    (ChangeSpec.witness_shaped (enc := enc) (C := Tryd.checked) (os := os) (X := fun w _ => laidMetH Tryd.prog laid3 w) false (World.doorLaid Tryd.prog 400 os) #[.int .i64 0, .int .i64 0] 8 rfl (World.shaped_of_RefB (by kernel_rfl) (by kernel_rfl)) (by kernel_rfl) (by kernel_rfl) (by kernel_rfl) (door_met os _)) ?_
  intro W base args ds gs before hval0 hW _ _ hL _
  have hval : ∀ (j : Nat) t v, Tryd.f3.params[j]? = some t → args[j]? = some v → Value.okWide Tryd.prog W .any base t v := hval0
  have hW' := hW
  obtain ⟨p, q, hA0, hV, rfl, hfz, hnd⟩ := hW
  have hA : DataW.TrodAll enc Tryd.prog W 0 (fun _ => true) true Tryd.f3.params.toList args.toList ds p := hA0
  have hp : Tryd.f3.params = #[3, 3] := by kernel_rfl
  rw [hp] at hA hval
  obtain ⟨v0, v1, d0, d1, p0, p1, rfl, rfl, rfl, h0, h1⟩ := trodAll_two hA
  obtain ⟨a, rfl, rfl, rfl, _⟩ := open_int Tryd.underlying3 (hval 0 3 v0 rfl rfl) h0
  obtain ⟨b, rfl, rfl, rfl, _⟩ := open_int Tryd.underlying3 (hval 1 3 v1 rfl rfl) h1
  refine (CA.call (rise_ok (tab_of_laid hL) a b) rfl fun j d v hd hv => ?_).mono fun e W' he => ?_
  · match j with
    | 0 => cases hd; cases hv; exact .i _ _
    | 1 => cases hd; cases hv; exact .i _ _
    | j + 2 => cases hd
  · obtain ⟨rfl, hb⟩ := he
    exact ⟨_, rfl, law_post (tb := 4) hW' rfl rfl (by kernel_rfl) Tryd.underlying4 (by kernel_rfl) (by kernel_rfl) hb⟩

theorem rise_holds : Rows.KnobsRiseSaid :=
  OpenClaim.holds_of_wide 3 Tryd.f3 rfl rfl rfl rfl rfl rfl rfl ⟨rfl, rfl, rfl, rfl, rfl⟩ rfl rfl rfl rfl rfl (by kernel_rfl) Tryd.func3 (by kernel_rfl)
    (of_decide_eq_true (by kernel_rfl)) (by unfold Func.isWrapper; rw [if_neg (of_decide_eq_false (by kernel_rfl))]; exact ⟨rfl, rfl⟩)
    (fun os started H enc _ => rise_lifted os started H enc)

theorem knobsRise_holds : Rows.KnobsRiseCardSaid :=
  Claim7.holds_tied_plain_at .later [] [.data, .data, .data] true (true, "4182127a6d1dea480267d4c5d79425d3154adbac44af595358c516656580ca37") false
    rise_holds (fun _ h => by cases h) (by kernel_rfl) (fun _ h => by cases h) knobsRise_row_tie rfl ⟨rfl, rfl⟩ (by kernel_rfl) rfl
    (fun f fn hf hfn => by
      obtain rfl : f = 3 := Option.some.inj ((show Tryd.prog.funcNamed "berthing/berthinglaw06.KnobsRise" = some 3 by kernel_rfl).symm.trans hf) |>.symm
      obtain rfl : fn = Tryd.f3 := (Option.some.inj (Tryd.func3.symm.trans hfn)).symm
      exact ⟨by kernel_rfl, fun j t ht => by
        have hp : Tryd.f3.params = #[3, 3] := by kernel_rfl
        rw [hp] at ht
        have hm : t ∈ [3, 3] := by simpa using Array.mem_of_getElem? ht
        have hall : ([3, 3].all fun u => !Tryd.prog.wantsStandIn u) = true := by kernel_rfl
        exact (show Tryd.prog.wantsStandIn t = false by simpa using List.all_eq_true.1 hall t hm)⟩)
    (by kernel_rfl)
#print axioms knobsRise_holds
end Go.Proofs.YtcldjplopgmjgaaDoor
