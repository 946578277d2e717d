/- A number written into a file is there, and files do not touch one another. Conditions: the package-level variables that the row lists hold what the program's text lays (the card ties them). -/
import Derived.Test.YtcldjplopgmjgaaDoorRead
import Derived.Test.YtcldjplopgmjgaaDoorFilesLaw
import Derived.Test.YtcldjplopgmjgaaDoorCards
import Derived.Test.YtcldjplopgmjgaaDoorTie
import Derived.JoinedOf
import Derived.SevenTiedAt
namespace Go.Proofs.YtcldjplopgmjgaaDoor
open Go Go.Px Go.ChangeShapes Go.RowKit

theorem files_lifted (os : Os) (started : os.Started) (H : Type) (enc : TypeId × Value → H) :
    ReturnsInHanded {} Tryd.checked os 4 .any (fun w args => (Rows.knobsFilesSpec.pre enc Tryd.prog Tryd.f4 [] false w args ∧ laidMetH Tryd.prog laid3 w) ∧ sizedMet enc Tryd.prog Tryd.f4 (OpenSpec.ofChange Rows.knobsFilesSpec) false w args)
      (Rows.knobsFilesSpec.post enc Tryd.prog Tryd.f4 false true false false) := by
  refine returnsInHanded_of_change_and (C := Tryd.checked) (X := fun w _ => laidMetH Tryd.prog laid3 w) (fun _ _ _ hh h => h.of_heap hh) own started (by kernel_rfl) Tryd.func4
    (ChangeSpec.witness_shaped (enc := enc) (C := Tryd.checked) (os := os) (X := fun w _ => laidMetH Tryd.prog laid3 w) false (World.doorLaid Tryd.prog 400 os) #[.agg #[.int .i64 0, .int .i64 0, .int .i64 0, .int .i64 0, .int .i64 0], .agg #[.int .i64 0, .int .i64 0], .agg #[.int .i64 0, .int .i64 0]] 8 rfl (World.shaped_of_RefB (by kernel_rfl) (by kernel_rfl)) (by kernel_rfl) (by kernel_rfl) (by kernel_rfl) (door_met os _)) ?_
  intro W base args ds gs before hval0 hW _ _ hL _
  have hval : ∀ (j : Nat) t v, Tryd.f4.params[j]? = some t → args[j]? = some v → Value.okWide Tryd.prog W .any base t v := hval0
  have hW' := hW
  obtain ⟨p, q, hA0, hV, rfl, hfz, hnd⟩ := hW
  have hA : DataW.TrodAll enc Tryd.prog W 0 (fun _ => true) true Tryd.f4.params.toList args.toList ds p := hA0
  have hp : Tryd.f4.params = #[26, 27, 27] := by kernel_rfl
  rw [hp] at hA hval
  obtain ⟨v0, v1, v2, d0, d1, d2, p0, p1, p2, rfl, rfl, rfl, h0, h1, h2⟩ := trodAll_three hA
  obtain ⟨a, b, c, e, f, rfl⟩ := read5 h0 (hval 0 26 v0 rfl rfl)
  obtain ⟨i, j, rfl⟩ := read2 h1 (hval 1 27 v1 rfl rfl)
  obtain ⟨n, m, rfl⟩ := read2 h2 (hval 2 27 v2 rfl rfl)
  have r5 : RepW W (kn a b c e f) (.agg #[.int .i64 a, .int .i64 b, .int .i64 c, .int .i64 e, .int .i64 f]) := by
    refine .agg rfl (by simp [DV.one]) fun j c v hj hv => ?_
    match j with
    | 0 => cases hj; cases hv; exact .i _ _
    | 1 => cases hj; cases hv; exact .i _ _
    | 2 => cases hj; cases hv; exact .i _ _
    | 3 => cases hj; cases hv; exact .i _ _
    | 4 => cases hj; cases hv; exact .i _ _
    | j + 5 => cases hj
  have r2 : ∀ x y : Int, RepW W (.agg [.i .i64 x, .i .i64 y]) (.agg #[.int .i64 x, .int .i64 y]) := fun x y => by
    refine .agg rfl (by simp [DV.one]) fun j c v hj hv => ?_
    match j with
    | 0 => cases hj; cases hv; exact .i _ _
    | 1 => cases hj; cases hv; exact .i _ _
    | j + 2 => cases hj
  refine (CA.call (files_ok (tab_of_laid hL) a b c e f i j n m) rfl fun k d v hd hv => ?_).mono fun e W' he => ?_
  · match k with
    | 0 => cases hd; cases hv; exact r5
    | 1 => cases hd; cases hv; exact r2 _ _
    | 2 => cases hd; cases hv; exact r2 _ _
    | k + 3 => cases hd
  · obtain ⟨rfl, hb⟩ := he
    exact ⟨_, rfl, law_post (tb := 4) hW' rfl rfl (by kernel_rfl) Tryd.underlying4 (by kernel_rfl) (by kernel_rfl) hb⟩

theorem files_holds : Rows.KnobsFilesSaid :=
  OpenClaim.holds_of_wide 4 Tryd.f4 rfl rfl rfl rfl rfl rfl rfl ⟨rfl, rfl, rfl, rfl, rfl⟩ rfl rfl rfl rfl rfl (by kernel_rfl) Tryd.func4 (by kernel_rfl)
    (of_decide_eq_true (by kernel_rfl)) (by unfold Func.isWrapper; rw [if_neg (of_decide_eq_false (by kernel_rfl))]; exact ⟨rfl, rfl⟩)
    (fun os started H enc _ => files_lifted os started H enc)

theorem knobsFiles_holds : Rows.KnobsFilesCardSaid :=
  Claim7.holds_tied_plain_at .later [] [.data, .data, .data] true (true, "4182127a6d1dea480267d4c5d79425d3154adbac44af595358c516656580ca37") false
    files_holds (fun _ h => by cases h) (by kernel_rfl) (fun _ h => by cases h) knobsFiles_row_tie rfl ⟨rfl, rfl⟩ (by kernel_rfl) rfl
    (fun f fn hf hfn => by
      obtain rfl : f = 4 := Option.some.inj ((show Tryd.prog.funcNamed "berthing/berthinglaw06.KnobsFiles" = some 4 by kernel_rfl).symm.trans hf) |>.symm
      obtain rfl : fn = Tryd.f4 := (Option.some.inj (Tryd.func4.symm.trans hfn)).symm
      exact ⟨by kernel_rfl, fun j t ht => by
        have hp : Tryd.f4.params = #[26, 27, 27] := by kernel_rfl
        rw [hp] at ht
        have hm : t ∈ [26, 27, 27] := by simpa using Array.mem_of_getElem? ht
        have hall : ([26, 27, 27].all fun u => !Tryd.prog.wantsStandIn u) = true := by kernel_rfl
        exact (show Tryd.prog.wantsStandIn t = false by simpa using List.all_eq_true.1 hall t hm)⟩)
    (by kernel_rfl)
#print axioms knobsFiles_holds
end Go.Proofs.YtcldjplopgmjgaaDoor
