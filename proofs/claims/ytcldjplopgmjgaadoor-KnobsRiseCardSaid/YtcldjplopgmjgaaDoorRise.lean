/- Weights: what is reckoned; they don't fall. -/
import Derived.Test.YtcldjplopgmjgaaDoorFirst
import Derived.Test.YtcldjplopgmjgaaDoorPxH
namespace Go.Proofs.YtcldjplopgmjgaaDoor
open Go Go.Px

theorem i64_in {n : Int} (h0 : -9223372036854775808 ≤ n) (h : n ≤ 9223372036854775807) : IntKind.i64.wrap n = n := by rw [IntKind.wrap_i64]; omega

/-- So many shares. -/
def share (m : Int) : Int := if m < 262144 then (if m < 0 then 0 else m) * 1024 / 1000 else 262144
def least2 (n : Int) : Int := if n < 2 then 2 else n
def most2 (n : Int) : Int := if 262144 < n then 262144 else n
def wt (m : Int) : Int := 1 + (most2 (least2 (share m)) - 2) * 9999 / 262142

theorem share_in (m : Int) : 0 ≤ share m ∧ share m ≤ 268435 := by
  unfold share
  repeat' split
  all_goals omega
theorem clamp_in (n : Int) : 2 ≤ most2 (least2 n) ∧ most2 (least2 n) ≤ 262144 := by
  unfold most2 least2
  repeat' split
  all_goals omega
theorem wt_in (m : Int) : 1 ≤ wt m ∧ wt m ≤ 10000 := by
  have := clamp_in (share m)
  unfold wt
  generalize most2 (least2 (share m)) = n at this
  omega
theorem clamp_mono {a b : Int} (h : a ≤ b) : most2 (least2 a) ≤ most2 (least2 b) := by
  unfold most2 least2
  repeat' split
  all_goals omega
theorem wt_mono {a b : Int} (h : a ≤ b) : wt a ≤ wt b := by
  have hc : most2 (least2 (share a)) ≤ most2 (least2 (share b)) := by
    by_cases hb : b < 262144
    · refine clamp_mono ?_
      unfold share
      rw [if_pos (by omega), if_pos hb]
      split <;> split <;> omega
    · have h1 := clamp_in (share a)
      have h2 : most2 (least2 (share b)) = 262144 := by unfold share; rw [if_neg hb]; rfl
      omega
  unfold wt
  generalize most2 (least2 (share a)) = x at hc
  generalize most2 (least2 (share b)) = y at hc
  omega

theorem weight_ok (E : Env) (hE : E.P = Tryd.prog) (m : Int) : CA E 6 ([DV.i .i64 m].map .d) [] none (fun r _ _ => r = .d (.i .i64 (wt m))) := by
  obtain ⟨P, W⟩ := E
  cases hE
  refine F_sound (drawOk mixed) Tryd.func6 (by kernel_rfl) x6_ok ?_
  simp [x6]
  have hp : ∀ x : Int, 0 ≤ x → x < 262144 → IntKind.i64.wrap ((IntKind.i64.wrap (x * 1024)).tdiv 1000) = x * 1024 / 1000 := by
    intro x h0 h1
    rw [i64_in (n := x * 1024) (by omega) (by omega), Int.tdiv_eq_ediv_of_nonneg (by omega), i64_in (by omega) (by omega)]
  have hq : ∀ n : Int, 2 ≤ n → n ≤ 262144 → IntKind.i64.wrap (1 + IntKind.i64.wrap ((IntKind.i64.wrap (IntKind.i64.wrap (n - 2) * 9999)).tdiv 262142)) = 1 + (n - 2) * 9999 / 262142 := by
    intro n h0 h1
    rw [i64_in (n := n - 2) (by omega) (by omega), i64_in (n := (n - 2) * 9999) (by omega) (by omega), Int.tdiv_eq_ediv_of_nonneg (by omega), i64_in (n := (n - 2) * 9999 / 262142) (by omega) (by omega), i64_in (by omega) (by omega)]
  constructor
  · intro h
    have hx : (0 : Int) ≤ (if m < 0 then 0 else m) ∧ (if m < 0 then 0 else m) < 262144 := by split <;> omega
    rw [hp _ hx.1 hx.2]
    have e : (if m < 0 then 0 else m) * 1024 / 1000 = share m := by unfold share; rw [if_pos h]
    rw [e]
    exact hq _ (clamp_in (share m)).1 (clamp_in (share m)).2
  · intro h
    have := hq 262144 (by omega) (by omega)
    have e : share m = 262144 := by unfold share; rw [if_neg (by omega)]
    unfold wt
    rw [e]
    exact this

theorem rise_ok {W : World} (htab : Lib.TabIs Tryd.prog W "internal/strconv.uint64pow10" .u64 Lib.pow10Tab) (a b : Int) : CA ⟨Tryd.prog, W⟩ 3 ([DV.i .i64 a, DV.i .i64 b].map .d) [] none (fun r _ _ => r = .d (.b true)) := by
  refine F_sound (drawOk mixed) Tryd.func3 (by kernel_rfl) x3_ok ?_
  simp [x3]
  refine callR1 rfl ((first_ok htab).mono ?_)
  rintro _ _ _ rfl
  simp
  refine callR1 rfl ((weight_ok ⟨Tryd.prog, W⟩ rfl _).mono ?_)
  rintro _ _ _ rfl
  simp
  refine callR1 rfl ((weight_ok ⟨Tryd.prog, W⟩ rfl _).mono ?_)
  rintro _ _ _ rfl
  have h1 := wt_in (if b < a then b else a)
  have h2 := wt_in (if a < b then b else a)
  have h3 : wt (if b < a then b else a) ≤ wt (if a < b then b else a) := wt_mono (by split <;> split <;> omega)
  generalize wt (if b < a then b else a) = x at h1 h3
  generalize wt (if a < b then b else a) = y at h2 h3
  simp [h1.1, h2.2, h3]

end Go.Proofs.YtcldjplopgmjgaaDoor
