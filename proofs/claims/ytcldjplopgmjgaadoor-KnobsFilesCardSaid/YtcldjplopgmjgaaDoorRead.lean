/- Knobs and pairs of numbers, as they come in. -/
import Derived.Test.YtcldjplopgmjgaaDoorLaid
import Derived.ChangeArms
import Derived.Lib.LaidTab
namespace Go.Proofs.YtcldjplopgmjgaaDoor
open Go Go.Px Go.ChangeShapes Go.RowKit
section
variable {H : Type} {enc : TypeId × Value → H} {W : World} {base : Nat} {v : Value} {d : DataW H} {p : List MemPlace}

theorem drop_one {cs : List Value} {i : Nat} {x : Value} (h : (cs.drop i).take 1 = [x]) : cs[i]? = some x := by
  have := congrArg (·[0]?) h
  simpa [List.getElem?_take, List.getElem?_drop] using this

theorem agg_of {t : TypeId} (hs : (∃ fs, Tryd.prog.underlying t = some (.struct fs)) ∨ ∃ m e, Tryd.prog.underlying t = some (.array m e)) (h : Value.okWide Tryd.prog W .any base t v) : ∃ cs : Array Value, v = .agg cs := by
  unfold Value.okWide at h
  rcases hs with ⟨fs, hs⟩ | ⟨m, e, hs⟩
  · rw [hs] at h; obtain ⟨cs, rfl, _⟩ := h; exact ⟨cs, rfl⟩
  · rw [hs] at h; obtain ⟨cs, rfl, _⟩ := h; exact ⟨cs, rfl⟩

theorem read5 (h : DataW.Trod enc Tryd.prog W 0 (fun _ => true) true 26 v d p) (ho : Value.okWide Tryd.prog W .any base 26 v) : ∃ a b c e f : Int, v = .agg #[.int .i64 a, .int .i64 b, .int .i64 c, .int .i64 e, .int .i64 f] := by
  obtain ⟨cs, rfl⟩ := agg_of (.inl ⟨_, Tryd.underlying26⟩) ho
  obtain ⟨fuel, h⟩ := h
  obtain ⟨xs, n, rfl, hx, hl, hlen, hf⟩ := DataW.trod_struct Tryd.underlying26 h
  have hc : Tryd.prog.cellsOf 26 = 5 := by kernel_rfl
  have h1 : Tryd.prog.cellsOf 3 = 1 := by kernel_rfl
  have hl : cs.toList.length = 5 := by rw [← hc]; exact hl
  have hlen : xs.length = 5 := hlen
  have go : ∀ i (f : Field), i < 5 → (#[{ name := "CPUMax", type := 3, offset := 0, embedded := false, tag := "", pkgPath := "", byteOffset := 0 },
        { name := "CPUWeight", type := 3, offset := 1, embedded := false, tag := "", pkgPath := "", byteOffset := 8 },
        { name := "MemMin", type := 3, offset := 2, embedded := false, tag := "", pkgPath := "", byteOffset := 16 },
        { name := "MemMax", type := 3, offset := 3, embedded := false, tag := "", pkgPath := "", byteOffset := 24 },
        { name := "HugeMax", type := 3, offset := 4, embedded := false, tag := "", pkgPath := "", byteOffset := 32 }] : Array Field)[i]? = some f → f.offset = i → f.type = 3 → ∃ a : Int, cs.toList[i]? = some (.int .i64 a) := by
    intro i f hi hfi ho ht
    have h2 := hf i f hfi
    rw [ho, ht, h1, List.getElem?_eq_getElem (by omega)] at h2
    obtain ⟨a, ha, _⟩ := DataW.trod_int Tryd.underlying3 h2
    exact ⟨a, drop_one ha⟩
  obtain ⟨a0, e0⟩ := go 0 _ (by omega) rfl rfl rfl
  obtain ⟨a1, e1⟩ := go 1 _ (by omega) rfl rfl rfl
  obtain ⟨a2, e2⟩ := go 2 _ (by omega) rfl rfl rfl
  obtain ⟨a3, e3⟩ := go 3 _ (by omega) rfl rfl rfl
  obtain ⟨a4, e4⟩ := go 4 _ (by omega) rfl rfl rfl
  refine ⟨a0, a1, a2, a3, a4, ?_⟩
  rw [← Array.toArray_toList (xs := cs)]
  generalize cs.toList = l at hl e0 e1 e2 e3 e4
  match l, hl with
  | [x0, x1, x2, x3, x4], _ => simp at e0 e1 e2 e3 e4; subst e0 e1 e2 e3 e4; rfl

theorem read2 (h : DataW.Trod enc Tryd.prog W 0 (fun _ => true) true 27 v d p) (ho : Value.okWide Tryd.prog W .any base 27 v) : ∃ a b : Int, v = .agg #[.int .i64 a, .int .i64 b] := by
  obtain ⟨cs, rfl⟩ := agg_of (.inr ⟨_, _, Tryd.underlying27⟩) ho
  obtain ⟨fuel, h⟩ := h
  have hc : Tryd.prog.cellsOf 27 = 2 := by kernel_rfl
  have h1 : Tryd.prog.cellsOf 3 = 1 := by kernel_rfl
  cases fuel with
  | zero => cases h
  | succ fuel =>
    simp only [DataW.trod, Tryd.underlying27, hc, h1, Nat.mul_one] at h
    split at h
    · rename_i hl
      obtain ⟨xs, hm, hx⟩ := Option.map_eq_some_iff.1 h
      have go : ∀ i, i < 2 → ∃ a : Int, cs.toList[i]? = some (.int .i64 a) := by
        intro i hi
        obtain ⟨b, hb, hf⟩ := Lib.mapM_at hm i i (by simp [hi])
        obtain ⟨a, ha, _⟩ := DataW.trod_int Tryd.underlying3 hf
        exact ⟨a, drop_one ha⟩
      obtain ⟨a0, e0⟩ := go 0 (by omega)
      obtain ⟨a1, e1⟩ := go 1 (by omega)
      refine ⟨a0, a1, ?_⟩
      have hl : cs.toList.length = 2 := hl
      rw [← Array.toArray_toList (xs := cs)]
      generalize cs.toList = l at hl e0 e1
      match l, hl with
      | [x0, x1], _ => simp at e0 e1; subst e0 e1; rfl
    · cases h
end
end Go.Proofs.YtcldjplopgmjgaaDoor
