/- Files do not touch one another. -/
import Derived.Test.YtcldjplopgmjgaaDoorFiles
namespace Go.Proofs.YtcldjplopgmjgaaDoor
open Go Go.Px

theorem knA_self {a b c d e f n : Int} (h0 : 0 ≤ f) (h4 : f ≤ 4) : knA (pk 0 f n a) (pk 1 f n b) (pk 2 f n c) (pk 3 f n d) (pk 4 f n e) f = n := by
  obtain rfl | rfl | rfl | rfl | rfl : f = 0 ∨ f = 1 ∨ f = 2 ∨ f = 3 ∨ f = 4 := by omega
  all_goals simp [knA, pk]
theorem knA_oth {a b c d e f n g : Int} (h : f ≠ g) : knA (pk 0 f n a) (pk 1 f n b) (pk 2 f n c) (pk 3 f n d) (pk 4 f n e) g = knA a b c d e g := by
  rcases file_cases g with hg | rfl | rfl | rfl | rfl | rfl | hg
  · unfold knA; rw [if_neg (by omega), if_neg (by omega), if_neg (by omega), if_neg (by omega), if_neg (by omega), if_neg (by omega), if_neg (by omega), if_neg (by omega), if_neg (by omega), if_neg (by omega)]
  · simp [knA, pk, h]
  · simp [knA, pk, h]
  · simp [knA, pk, h]
  · simp [knA, pk, h]
  · simp [knA, pk, h]
  · unfold knA; rw [if_neg (by omega), if_neg (by omega), if_neg (by omega), if_neg (by omega), if_neg (by omega), if_neg (by omega), if_neg (by omega), if_neg (by omega), if_neg (by omega), if_neg (by omega)]
theorem pk_back (i f n a x : Int) (hx : f = i → x = a) : pk i f x (pk i f n a) = a := by
  unfold pk; split
  · rename_i h; exact hx h
  · rfl
theorem knW_back {a b c d e f n : Int} : knW (pk 0 f n a) (pk 1 f n b) (pk 2 f n c) (pk 3 f n d) (pk 4 f n e) f (knA a b c d e f) = kn a b c d e := by
  have h1 : f = 0 → knA a b c d e f = a := fun h => by simp [knA, h]
  have h2 : f = 1 → knA a b c d e f = b := fun h => by simp [knA, h]
  have h3 : f = 2 → knA a b c d e f = c := fun h => by simp [knA, h]
  have h4 : f = 3 → knA a b c d e f = d := fun h => by simp [knA, h]
  have h5 : f = 4 → knA a b c d e f = e := fun h => by simp [knA, h]
  simp only [knW, pk_back _ _ _ _ _ h1, pk_back _ _ _ _ _ h2, pk_back _ _ _ _ _ h3, pk_back _ _ _ _ _ h4, pk_back _ _ _ _ _ h5]
theorem pk_comm (i f n g m a : Int) (h : f ≠ g) : pk i g m (pk i f n a) = pk i f n (pk i g m a) := by
  unfold pk
  by_cases h1 : f = i
  · rw [if_neg (fun h2 => h (h1.trans h2.symm))]; simp [h1]
  · rw [if_neg h1, if_neg h1]

theorem files_out {W : World} (htab : Lib.TabIs Tryd.prog W "internal/strconv.uint64pow10" .u64 Lib.pow10Tab) (a b c d e f g n m : Int) (h : f < 0 ∨ (¬ f < 0 ∧ 4 < f)) : FX ⟨Tryd.prog, W⟩ x4 [.d (kn a b c d e), .d (.agg [.i .i64 f, .i .i64 g]), .d (.agg [.i .i64 n, .i .i64 m])] [] none (fun r _ _ => r = .d (.b true)) := by
  have hw := fun f n => with_ok ⟨Tryd.prog, W⟩ rfl a b c d e f n
  have ha := fun f => at_ok ⟨Tryd.prog, W⟩ rfl a b c d e f
  have out : knW a b c d e f n = kn a b c d e := by
    unfold knW pk; rw [if_neg (by omega), if_neg (by omega), if_neg (by omega), if_neg (by omega), if_neg (by omega)]
  have outA : knA a b c d e f = 0 := by
    unfold knA; rw [if_neg (by omega), if_neg (by omega), if_neg (by omega), if_neg (by omega), if_neg (by omega)]
  simp only [kn] at hw ha
  simp [x4, kn]
  simp [x4_6]
  refine callR1 rfl ((first_ok htab).mono ?_)
  rintro _ _ _ rfl
  simp
  simp [x4_5]
  simp [x4_4]
  refine callR1 rfl ((hw f n).mono ?_)
  rintro _ _ _ rfl
  rw [out, kn]
  simp
  rcases h with h | ⟨h', h⟩
  · simp [x4_3, h]
    simp [x4_0]
    refine callR1 rfl ((ha f).mono ?_)
    rintro _ _ _ rfl
    simp [outA]
  · simp [x4_3, h, h']
    simp [x4_0]
    refine callR1 rfl ((ha f).mono ?_)
    rintro _ _ _ rfl
    simp [outA]

set_option maxRecDepth 100000 in
set_option maxHeartbeats 8000000 in
theorem files_in {W : World} (htab : Lib.TabIs Tryd.prog W "internal/strconv.uint64pow10" .u64 Lib.pow10Tab) (a b c d e f g n m : Int) (h0 : 0 ≤ f) (h4 : f ≤ 4) : FX ⟨Tryd.prog, W⟩ x4 [.d (kn a b c d e), .d (.agg [.i .i64 f, .i .i64 g]), .d (.agg [.i .i64 n, .i .i64 m])] [] none (fun r _ _ => r = .d (.b true)) := by
  have h0' : ¬ f < 0 := by omega
  have h4' : ¬ 4 < f := by omega
  -- what is written
  have hw1 := with_ok ⟨Tryd.prog, W⟩ rfl a b c d e f n
  have ha1 := at_ok ⟨Tryd.prog, W⟩ rfl (pk 0 f n a) (pk 1 f n b) (pk 2 f n c) (pk 3 f n d) (pk 4 f n e) f
  rw [knA_self h0 h4] at ha1
  have ha2 := at_ok ⟨Tryd.prog, W⟩ rfl a b c d e f
  have hw2 := with_ok ⟨Tryd.prog, W⟩ rfl (pk 0 f n a) (pk 1 f n b) (pk 2 f n c) (pk 3 f n d) (pk 4 f n e) f (knA a b c d e f)
  rw [knW_back] at hw2
  generalize knA a b c d e f = F at ha2 hw2
  simp only [knW, kn] at hw1 ha1 ha2 hw2
  by_cases hfg : f = g
  · subst hfg
    generalize pk 0 f n a = A0 at hw1 ha1 hw2
    generalize pk 1 f n b = A1 at hw1 ha1 hw2
    generalize pk 2 f n c = A2 at hw1 ha1 hw2
    generalize pk 3 f n d = A3 at hw1 ha1 hw2
    generalize pk 4 f n e = A4 at hw1 ha1 hw2
    simp [x4, kn]
    simp [x4_6]
    refine callR1 rfl ((first_ok htab).mono ?_)
    rintro _ _ _ rfl
    simp
    simp [x4_5]
    simp [x4_4]
    refine callR1 rfl (hw1.mono ?_)
    rintro _ _ _ rfl
    simp
    simp [x4_3, h0', h4']
    simp [x4_0]
    simp [x4_2]
    refine callD1 _ rfl rfl ha1 ?_
    simp
    refine callD1 _ rfl rfl ha2 ?_
    simp
    refine callD1 _ rfl rfl hw2 ?_
    simp
    simp (maxSteps := 4000000) [x4_1]
  · have ha3 := at_ok ⟨Tryd.prog, W⟩ rfl (pk 0 f n a) (pk 1 f n b) (pk 2 f n c) (pk 3 f n d) (pk 4 f n e) g
    rw [knA_oth hfg] at ha3
    have ha4 := at_ok ⟨Tryd.prog, W⟩ rfl a b c d e g
    have hw3 := with_ok ⟨Tryd.prog, W⟩ rfl (pk 0 f n a) (pk 1 f n b) (pk 2 f n c) (pk 3 f n d) (pk 4 f n e) g m
    have hw4 := with_ok ⟨Tryd.prog, W⟩ rfl a b c d e g m
    have hw5 := with_ok ⟨Tryd.prog, W⟩ rfl (pk 0 g m a) (pk 1 g m b) (pk 2 g m c) (pk 3 g m d) (pk 4 g m e) f n
    simp only [knW, kn, pk_comm _ f n g m _ hfg] at ha3 ha4 hw3 hw4 hw5
    generalize knA a b c d e g = G at ha3 ha4
    generalize pk 0 g m a = B0 at hw3 hw4 hw5
    generalize pk 1 g m b = B1 at hw3 hw4 hw5
    generalize pk 2 g m c = B2 at hw3 hw4 hw5
    generalize pk 3 g m d = B3 at hw3 hw4 hw5
    generalize pk 4 g m e = B4 at hw3 hw4 hw5
    generalize pk 0 f n B0 = C0 at hw3 hw5
    generalize pk 1 f n B1 = C1 at hw3 hw5
    generalize pk 2 f n B2 = C2 at hw3 hw5
    generalize pk 3 f n B3 = C3 at hw3 hw5
    generalize pk 4 f n B4 = C4 at hw3 hw5
    generalize pk 0 f n a = A0 at hw1 ha1 hw2 ha3 hw3
    generalize pk 1 f n b = A1 at hw1 ha1 hw2 ha3 hw3
    generalize pk 2 f n c = A2 at hw1 ha1 hw2 ha3 hw3
    generalize pk 3 f n d = A3 at hw1 ha1 hw2 ha3 hw3
    generalize pk 4 f n e = A4 at hw1 ha1 hw2 ha3 hw3
    simp [x4, kn]
    simp [x4_6]
    refine callR1 rfl ((first_ok htab).mono ?_)
    rintro _ _ _ rfl
    simp
    simp [x4_5]
    simp [x4_4]
    refine callR1 rfl (hw1.mono ?_)
    rintro _ _ _ rfl
    simp
    simp [x4_3, h0', h4']
    simp [x4_0]
    simp [x4_2]
    refine callD1 _ rfl rfl ha1 ?_
    simp
    refine callD1 _ rfl rfl ha2 ?_
    simp
    refine callD1 _ rfl rfl hw2 ?_
    simp
    simp (maxSteps := 4000000) [x4_1, hfg]
    refine callD1 _ rfl rfl ha3 ?_
    simp (maxSteps := 4000000)
    refine callD1 _ rfl rfl ha4 ?_
    simp (maxSteps := 4000000)
    refine callD1 _ rfl rfl hw3 ?_
    simp (maxSteps := 4000000)
    refine callD1 _ rfl rfl hw4 ?_
    simp (maxSteps := 4000000)
    refine callD1 _ rfl rfl hw5 ?_
    simp (maxSteps := 4000000)

theorem files_ok {W : World} (htab : Lib.TabIs Tryd.prog W "internal/strconv.uint64pow10" .u64 Lib.pow10Tab) (a b c d e f g n m : Int) :
    CA ⟨Tryd.prog, W⟩ 4 ([kn a b c d e, .agg [.i .i64 f, .i .i64 g], .agg [.i .i64 n, .i .i64 m]].map .d) [] none (fun r _ _ => r = .d (.b true)) := by
  refine F_sound (drawOk mixed) Tryd.func4 (by kernel_rfl) x4_ok ?_
  by_cases h : 0 ≤ f ∧ f ≤ 4
  · exact files_in htab a b c d e f g n m h.1 h.2
  · exact files_out htab a b c d e f g n m (by omega)

end Go.Proofs.YtcldjplopgmjgaaDoor
