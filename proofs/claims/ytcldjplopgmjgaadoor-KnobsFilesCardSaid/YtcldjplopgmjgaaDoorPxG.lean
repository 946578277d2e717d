/- The abstract machine, a part of it: no statement of the claim's own. -/
import Derived.Test.YtcldjplopgmjgaaDoorPxE
import Derived.JoinedOf
import Derived.ChangeSame
import Derived.RowKit
import Derived.RowKitTokens
import Derived.Carry
import Derived.Handed
import Derived.LaidLaws

/- From a law's contract to its row. -/
namespace Go.Px
open Go.ChangeShapes Go.RowKit
section
variable {P : Program} {W W' : World} {f : FuncId} {H : Type} {enc : TypeId × Value → H}

/-- The ghosts of a call from outside: all that was there is told as it is. -/
def Gh.start (W : World) : Gh := { ρ := [], fs := [], owM := fun _ _ => none, I := fun b _ => b < W.heap.size }

theorem RelM.start (P : Program) (W : World) : RelM ⟨P, W⟩ (Gh.start W) [] none W := by
  refine ⟨Below.refl _ _, rfl, (fun os e => by cases e), ?_, by simp [blks, Gh.start], by simp [blks, Gh.start], (fun x i b e => by cases e), (fun x i y j b e => by cases e), fun b k h => h⟩
  intro p o hp
  cases p with
  | fr r => cases r <;> simp [plGet, refGet] at hp
  | ob i => simp [plGet, hGet] at hp

/-- Data of the world that the call begins in. -/
abbrev RepW (W : World) (d : DV) (v : Value) : Prop := RepD [] (fun b _ => b < W.heap.size) W d v

theorem CA.call {ds : List DV} {vs : Array Value} (h : CA ⟨P, W⟩ f (ds.map .d) [] none (fun r _ _ => r = .d (.b true))) (hl : vs.size = ds.length)
    (hr : ∀ (j : Nat) d v, ds[j]? = some d → vs[j]? = some v → RepW W d v) : Calls P f vs W fun e w' => e = .returned (.bool true) ∧ Below W.heap.size W w' := by
  refine (h.2 (Gh.start W) W vs (RelM.start P W) (by simpa using hl) fun j c v hj hv => ?_).mono fun e w' he => ?_
  · rw [List.getElem?_map, Option.map_eq_some_iff] at hj
    obtain ⟨d, hd, rfl⟩ := hj
    exact .d (hr j d v hd hv)
  · obtain ⟨v, r, U', H', g', rfl, hR, _, _, hrep, _, rfl⟩ := he
    cases hrep with | d h => cases h; exact ⟨rfl, hR.below⟩

theorem trodAll_below (hl : laidOutB P = true) {W W' : World} (hb : Below W.heap.size W W') : ∀ {ts : List TypeId} {vs : List Value} {ds : List (DataW H)} {ps : List MemPlace},
    (∀ t ∈ ts, P.readableRec t = true ∧ t < P.types.size) → DataW.TrodAll enc P W 0 (fun _ => true) true ts vs ds ps → (∀ x ∈ ps, x.block < W.heap.size) →
    DataW.TrodAll enc P W' 0 (fun b => decide (b < W.heap.size)) true ts vs ds ps := by
  intro ts
  induction ts with
  | nil => intro vs ds ps _ h _; cases vs <;> cases ds <;> first | exact h | exact h.elim
  | cons t ts ih =>
    intro vs ds ps hr h hlt
    cases vs with
    | nil => cases ds <;> exact h.elim
    | cons v vs =>
      cases ds with
      | nil => exact h.elim
      | cons d ds =>
        obtain ⟨p, q, h1, h2, rfl⟩ := h
        exact ⟨p, q, Below.trod hl (hr t List.mem_cons_self).1 (hr t List.mem_cons_self).2 h1 hb (fun x hx => hlt x (List.mem_append_left _ hx)), ih (fun t ht => hr t (List.mem_cons_of_mem _ ht)) h2 (fun x hx => hlt x (List.mem_append_right _ hx)), rfl⟩

/-- A law that answers true and leaves all that was there as it was. -/
theorem law_post {fn : Func} {s : ChangeSpec} {apart fresh handsOn : Bool} {args : Array Value} {ds gs : List (DataW H)} {before : List MemPlace} {tb : TypeId}
    (hW : DataW.Whole enc P fn.params.toList s.vars apart W args.toList ds gs before) (hv : s.vars = []) (hf : s.fn H ds = { results := [.lit (.bool true)], args := ds })
    (hres : fn.resultTypes = #[tb]) (htb : P.underlying tb = some .bool) (hl : laidOutB P = true) (hr : fn.params.toList.all (fun t => P.readableRec t && decide (t < P.types.size)) = true) (hb : Below W.heap.size W W') :
    s.post enc P fn apart fresh handsOn false W args (.bool true) W' := by
  have hlt := hW.lt
  have hW' := hW
  obtain ⟨p, q, hA, hV, rfl, hz, hn⟩ := hW
  rw [hv] at hV
  have hg : gs = [] ∧ q = [] := by
    cases gs with
    | nil => exact ⟨rfl, hV⟩
    | cons g r => exact hV.elim
  obtain ⟨rfl, rfl⟩ := hg
  simp only [List.append_nil] at hW' hlt
  have hr' : ∀ t ∈ fn.params.toList, P.readableRec t = true ∧ t < P.types.size := fun t ht => by
    have := List.all_eq_true.1 hr t ht
    simpa using this
  refine ⟨ds, [], p, [], p, [], hW', ?_, ?_, ?_, Below.frame hb _, fun e => by cases e⟩
  · rw [List.append_nil, hf, hres]
    exact trodAll_mk1 (shut_bool htb true)
  · rw [List.append_nil, hf]
    exact trodAll_below hl hb hr' hA hlt
  · rw [hv, List.append_nil, hf]; exact rfl

end
end Go.Px

/- Functions of the library by their contracts. -/
namespace Go.Px
open Go.RowKit
section
variable {E : Env}

/-- A contract that leaves all that was there as it was. -/
theorem CA.ofBelow {f : FuncId} {ds : List DV} {v : DV} (hf : HasF E.P f)
    (hc : ∀ (g : Gh) (w : World) (vs : Array Value), RelM E g [] none w → vs.size = ds.length → (∀ (j : Nat) d x, ds[j]? = some d → vs[j]? = some x → RepD g.ρ g.I w d x) →
      Calls E.P f vs w fun e w' => ∃ x, e = .returned x ∧ Below w.heap.size w w' ∧ RepD g.ρ g.I w v x) : CA E f (ds.map .d) [] none (fun r _ _ => r = .d v) := by
  refine ⟨hf, fun g w vs hR hl hr => ?_⟩
  have hfs : g.fs = [] := by
    have := hR.len
    cases hg : g.fs with
    | nil => rfl
    | cons a l => rw [hg] at this; cases this
  refine (hc g w vs hR (by simpa using hl) fun j d x hj hx => ?_).mono fun e w' he => ?_
  · have := hr j (.d d) x (by rw [List.getElem?_map, hj]; rfl) hx
    exact this.d_inv
  · obtain ⟨x, rfl, hb, hrep⟩ := he
    have hcell : ∀ b k, g.I b k → w'.cell? ⟨b, k, none⟩ = w.cell? ⟨b, k, none⟩ := fun b k h => cell?_of (hb.block b (hR.lt b k h)) k
    have hbl : blks g none = [] := by simp [blks, hfs]
    refine ⟨x, .d v, [], none, g, rfl, ⟨hR.below.trans ⟨hb.os, hb.tape, hb.output, hb.size, fun k hk => hb.block k (Nat.lt_of_lt_of_le hk hR.below.size)⟩, hR.len, hR.hlen, ?_, hR.nd, ?_, ?_, hR.inj, fun b k h => Nat.lt_of_lt_of_le (hR.lt b k h) hb.size⟩,
      ⟨hb.size, hb.os, hb.tape, hb.output, fun _ _ h => h, hcell, fun b hlt _ => ⟨hb.block b hlt, fun _ h => h⟩, fun b h => .inl h, List.prefix_refl _, rfl, rfl, fun _ => rfl⟩, rfl,
      .d (hrep.mono (List.prefix_refl _) (fun _ _ h => h) hcell), rfl, rfl⟩
    · intro p o hp
      cases p with
      | fr r => cases r <;> simp [plGet, refGet] at hp
      | ob i => simp [plGet, hGet] at hp
    · intro b h; rw [hbl] at h; cases h
    · intro x i b h
      have := (hR.own x i b h).1
      rw [hbl] at this; cases this

end
end Go.Px

