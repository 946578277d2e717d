/- The numbers in files. -/
import Derived.Test.YtcldjplopgmjgaaDoorFirst
import Derived.Test.YtcldjplopgmjgaaDoorPxH
namespace Go.Proofs.YtcldjplopgmjgaaDoor
open Go Go.Px

def kn (a b c d e : Int) : DV := .agg [.i .i64 a, .i .i64 b, .i .i64 c, .i .i64 d, .i .i64 e]
def pk (i : Int) (f n x : Int) : Int := if f = i then n else x
def knW (a b c d e f n : Int) : DV := kn (pk 0 f n a) (pk 1 f n b) (pk 2 f n c) (pk 3 f n d) (pk 4 f n e)
def knA (a b c d e f : Int) : Int := if f = 0 then a else if f = 1 then b else if f = 2 then c else if f = 3 then d else if f = 4 then e else 0

theorem file_cases (f : Int) : f < 0 ∨ f = 0 ∨ f = 1 ∨ f = 2 ∨ f = 3 ∨ f = 4 ∨ 4 < f := by omega

theorem parts_ok (E : Env) (hE : E.P = Tryd.prog) (a b c d e : Int) : CA E 14 ([kn a b c d e].map .d) [] none (fun r _ _ => r = .d (kn a b c d e)) := by
  obtain ⟨P, W⟩ := E
  cases hE
  refine F_sound (drawOk mixed) Tryd.func14 (by kernel_rfl) x14_ok ?_
  simp [x14, kn]

theorem with_ok (E : Env) (hE : E.P = Tryd.prog) (a b c d e f n : Int) : CA E 7 ([kn a b c d e, .i .i64 f, .i .i64 n].map .d) [] none (fun r _ _ => r = .d (knW a b c d e f n)) := by
  have hp := parts_ok E hE a b c d e
  obtain ⟨P, W⟩ := E
  cases hE
  refine F_sound (drawOk mixed) Tryd.func7 (by kernel_rfl) x7_ok ?_
  simp only [kn] at hp
  have out : f < 0 ∨ 4 < f → knW a b c d e f n = kn a b c d e := fun h => by
    unfold knW pk; rw [if_neg (by omega), if_neg (by omega), if_neg (by omega), if_neg (by omega), if_neg (by omega)]
  rcases file_cases f with h | rfl | rfl | rfl | rfl | rfl | h
  · rw [out (.inl h)]; simp [x7, kn, h]
  · simp [x7, kn, knW, pk]
    refine callR1 rfl (hp.mono ?_)
    rintro _ _ _ rfl
    simp
  · simp [x7, kn, knW, pk]
    refine callR1 rfl (hp.mono ?_)
    rintro _ _ _ rfl
    simp
  · simp [x7, kn, knW, pk]
    refine callR1 rfl (hp.mono ?_)
    rintro _ _ _ rfl
    simp
  · simp [x7, kn, knW, pk]
    refine callR1 rfl (hp.mono ?_)
    rintro _ _ _ rfl
    simp
  · simp [x7, kn, knW, pk]
    refine callR1 rfl (hp.mono ?_)
    rintro _ _ _ rfl
    simp
  · rw [out (.inr h)]
    simp [x7, kn, h, show ¬ f < 0 by omega]

theorem at_ok (E : Env) (hE : E.P = Tryd.prog) (a b c d e f : Int) : CA E 8 ([kn a b c d e, .i .i64 f].map .d) [] none (fun r _ _ => r = .d (.i .i64 (knA a b c d e f))) := by
  have hp := parts_ok E hE a b c d e
  obtain ⟨P, W⟩ := E
  cases hE
  refine F_sound (drawOk mixed) Tryd.func8 (by kernel_rfl) x8_ok ?_
  simp only [kn] at hp
  have out : f < 0 ∨ 4 < f → knA a b c d e f = 0 := fun h => by
    unfold knA; rw [if_neg (by omega), if_neg (by omega), if_neg (by omega), if_neg (by omega), if_neg (by omega)]
  rcases file_cases f with h | rfl | rfl | rfl | rfl | rfl | h
  · rw [out (.inl h)]; simp [x8, kn, h]
  · simp [x8, kn, knA]
    refine callR1 rfl (hp.mono ?_)
    rintro _ _ _ rfl
    simp [partD]
  · simp [x8, kn, knA]
    refine callR1 rfl (hp.mono ?_)
    rintro _ _ _ rfl
    simp [partD]
  · simp [x8, kn, knA]
    refine callR1 rfl (hp.mono ?_)
    rintro _ _ _ rfl
    simp [partD]
  · simp [x8, kn, knA]
    refine callR1 rfl (hp.mono ?_)
    rintro _ _ _ rfl
    simp [partD]
  · simp [x8, kn, knA]
    refine callR1 rfl (hp.mono ?_)
    rintro _ _ _ rfl
    simp [partD]
  · rw [out (.inr h)]
    simp [x8, kn, h, show ¬ f < 0 by omega]

end Go.Proofs.YtcldjplopgmjgaaDoor
