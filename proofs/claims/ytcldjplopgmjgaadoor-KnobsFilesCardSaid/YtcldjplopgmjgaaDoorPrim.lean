/- strconv.Itoa and strings.Join, as the abstract machine's own functions. -/
import Derived.Test.YtcldjplopgmjgaaDoorPxF
import Derived.Test.YtcldjplopgmjgaaDoorFns
import Derived.Test.YtcldjplopgmjgaaDoorShelf
namespace Go.Proofs.YtcldjplopgmjgaaDoor
open Go Go.Px Go.RowKit Go.Sort

def digF : Nat → Nat → List UInt8 → List UInt8
  | 0, _, l => l
  | f + 1, n, l => if n < 10 then UInt8.ofNat (48 + n) :: l else digF f (n / 10) (UInt8.ofNat (48 + n % 10) :: l)

theorem digF_eq : ∀ (f n : Nat) (l : List UInt8), n < 10 ^ (f + 1) → digF (f + 1) n l = Lib.decDigits n ++ l := by
  intro f
  induction f with
  | zero =>
    intro n l h
    have h : n < 10 := by simpa using h
    rw [Lib.decDigits, dif_pos h, digF, if_pos h]; rfl
  | succ f ih =>
    intro n l h
    rw [digF, Lib.decDigits]
    by_cases hn : n < 10
    · rw [dif_pos hn, if_pos hn]; rfl
    · rw [dif_neg hn, if_neg hn, ih (n / 10) _ (by rw [Nat.pow_succ] at h; omega), List.append_assoc]; rfl

def strsOf : List DV → Option (List ByteArray)
  | [] => some []
  | .s x :: l => match strsOf l with | some r => some (x :: r) | none => none
  | _ => none

def joinF (sep : List UInt8) : List ByteArray → List UInt8
  | [] => []
  | [x] => x.data.toList
  | x :: y :: l => x.data.toList ++ (sep ++ joinF sep (y :: l))

theorem joinF_eq (sep : List UInt8) (l : List ByteArray) : joinF sep l = Lib.join (l.map (·.data.toList)) sep := by
  have key : ∀ (l : List ByteArray) (x : ByteArray), joinF sep (x :: l) = x.data.toList ++ Lib.joinTail sep (l.map (·.data.toList)) := by
    intro l
    induction l with
    | nil => intro x; simp [joinF, Lib.joinTail]
    | cons y l ih => intro x; simp only [joinF, ih, List.map_cons, Lib.joinTail, List.flatten_cons, List.append_assoc]
  cases l with
  | nil => rfl
  | cons x l => rw [key, List.map_cons, Lib.join_cons]

def prim : PrimF := fun f ds => match f, ds with
  | 20, [.i .i64 n] => if 0 ≤ n ∧ n < 9223372036854775808 then some (.s ⟨(digF 20 n.toNat []).toArray⟩) else none
  | 21, [.sl 1 (x :: xs), .s sep] => match strsOf (x :: xs) with
    | some r => if xs.length < 1000 ∧ (joinF sep.data.toList r).length < 100000 then some (.s ⟨(joinF sep.data.toList r).toArray⟩) else none
    | none => none
  | _, _ => none

theorem strsOf_spec : ∀ {l : List DV} {r : List ByteArray}, strsOf l = some r → r.length = l.length ∧ ∀ (j : Nat) x, r[j]? = some x → l[j]? = some (.s x) := by
  intro l
  induction l with
  | nil => intro r h; cases h; exact ⟨rfl, fun j x h => by cases h⟩
  | cons a l ih =>
    intro r h
    unfold strsOf at h
    split at h
    · rename_i e; cases e
    · rename_i x l' e
      cases e
      split at h
      · rename_i r' hr
        cases h
        obtain ⟨h1, h2⟩ := ih hr
        refine ⟨by simp [h1], fun j y hj => ?_⟩
        cases j with
        | zero => cases hj; rfl
        | succ j => exact h2 j y hj
      · cases h
    · cases h

theorem tab_keep {W w : World} (h : Lib.TabIs Tryd.prog W "internal/strconv.uint64pow10" .u64 Lib.pow10Tab) (hb : Below W.heap.size W w) : Lib.TabIs Tryd.prog w "internal/strconv.uint64pow10" .u64 Lib.pow10Tab := by
  unfold Lib.TabIs World.var? at h ⊢
  rw [Option.bind_eq_some_iff] at h
  obtain ⟨g, hg, h⟩ := h
  rw [hg, Option.bind_some]
  have hlt : g < W.heap.size := by
    rcases Nat.lt_or_ge g W.heap.size with hl | hl
    · exact hl
    · rw [Array.getElem?_eq_none hl] at h; cases h
  rw [hb.block g hlt]; exact h

theorem below_grow (w : World) (k : Nat) (os : Array Obj) : Below w.heap.size w (grow (w.drewN k) os) := by
  refine ⟨rfl, rfl, rfl, ?_, fun b hb => ?_⟩
  · show w.heap.size ≤ (w.heap ++ os).size
    simp
  · show (w.heap ++ os)[b]? = _
    rw [Array.getElem?_append_left hb]

theorem prim_ok {W : World} (htab : Lib.TabIs Tryd.prog W "internal/strconv.uint64pow10" .u64 Lib.pow10Tab) : PrimOk ⟨Tryd.prog, W⟩ prim := by
  intro f ds v h
  unfold prim at h
  split at h
  · rename_i n
    rw [Option.ite_none_right_eq_some] at h
    obtain ⟨hn, h⟩ := h
    cases h
    refine CA.ofBelow ⟨_, Tryd.func20, by kernel_rfl, by kernel_rfl⟩ fun g w vs hR hl hr => ?_
    obtain ⟨v0, rfl⟩ : ∃ v0, vs = #[v0] := by
      have : vs.toList.length = 1 := by simpa using hl
      obtain ⟨v0, hv⟩ := List.length_eq_one_iff.1 this
      exact ⟨v0, by rw [← Array.toArray_toList (xs := vs), hv]⟩
    have h0 := hr 0 (.i .i64 n) v0 rfl rfl
    cases h0
    refine (Tryd.strconv_Itoa n (by omega) (by omega) w (tab_keep htab hR.below)).mono fun e w' he => ?_
    obtain ⟨rfl, k, os, rfl⟩ := he
    refine ⟨_, rfl, below_grow w k os, ?_⟩
    have e1 : Lib.itoa n = digF 20 n.toNat [] := by
      rw [digF_eq 19 n.toNat [] (by have := hn.2; show n.toNat < 100000000000000000000; omega), List.append_nil, Lib.itoa, if_neg (by omega)]
    rw [e1]
    exact .s _
  · rename_i x xs sep
    split at h
    · rename_i r hr
      rw [Option.ite_none_right_eq_some] at h
      obtain ⟨hn, h⟩ := h
      cases h
      obtain ⟨l1, l2⟩ := strsOf_spec hr
      refine CA.ofBelow ⟨_, Tryd.func21, by kernel_rfl, by kernel_rfl⟩ fun g w vs hR hl hrep => ?_
      obtain ⟨v0, v1, rfl⟩ : ∃ v0 v1, vs = #[v0, v1] := by
        have : vs.toList.length = 2 := by simpa using hl
        generalize hvs : vs.toList = l at this
        match l, this with
        | [a, b], _ => exact ⟨a, b, by rw [← Array.toArray_toList (xs := vs), hvs]⟩
      have h0 := hrep 0 (.sl 1 (x :: xs)) v0 rfl rfl
      have h1 := hrep 1 (.s sep) v1 rfl rfl
      cases h1
      cases h0 with
      | @sl _ _ b off cap us hc hs hm hu =>
        have hcells : ∀ (j : Nat) y, r[j]? = some y → w.cell? ⟨b, off + j, none⟩ = some (.string y) := by
          intro j y hj
          have hx := l2 j y hj
          have hlt : j < (x :: xs).length := (List.getElem?_eq_some_iff.1 hx).1
          have h2 := hu j (.s y) 0 (.s y) hx rfl
          have h3 := (hm j (by simpa using hlt)).1
          simp only [Nat.mul_one, Nat.add_zero] at h2
          cases hvj : us j with
          | string z => rw [hvj] at h2 h3; cases h2; exact h3
          | _ => rw [hvj] at h2; cases h2
        have hb : b < w.heap.size := hR.lt b (off + 0) (hm 0 (by simp)).2
        have hlr : (x :: xs).length = r.length := l1.symm
        have hxs : (x :: xs).length = xs.length + 1 := rfl
        have e2 := joinF_eq sep.data.toList r
        have := Tryd.strings_Join b off cap r sep w hcells hb (by omega) (by omega) (by rw [← e2]; omega)
        rw [← hlr] at this
        refine this.mono fun e w' he => ?_
        obtain ⟨rfl, hbl⟩ := he
        refine ⟨_, rfl, hbl, ?_⟩
        rw [← e2]
        exact .s _
    · cases h
  · cases h

end Go.Proofs.YtcldjplopgmjgaaDoor
