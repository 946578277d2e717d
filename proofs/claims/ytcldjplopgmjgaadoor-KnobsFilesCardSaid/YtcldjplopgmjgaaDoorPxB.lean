/- The abstract machine, a part of it: no statement of the claim's own. -/
import Derived.Test.YtcldjplopgmjgaaDoorPxA
import Derived.WalkKit
import Derived.Lib.ConvBytes
import Derived.Laws.BytesString
import Derived.Laws.AppendOwn

/- Small facts on slots, boxes and worlds. -/
namespace Go.Px

theorem getT_setT (l : List (Nat × AV)) (t : Nat) (v : AV) (n : Nat) : getT (setT l t v) n = if t = n then v else getT l n := by
  induction l with
  | nil => simp [setT, getT]
  | cons p l ih =>
    obtain ⟨k, u⟩ := p
    simp only [setT]
    split
    · rename_i h; subst h; simp only [getT]; split <;> rfl
    · split
      · simp only [getT]
      · rename_i h1 h2
        simp only [getT, ih]
        by_cases hk : k = n
        · subst hk; simp; intro h; exact absurd h.symm h1
        · simp [hk]

theorem frGet_frIns {f : Frm} {s : Nat} (h : frGet f s = none) (o : BObj) (n : Nat) : frGet (frIns f s o) n = if s = n then some o else frGet f n := by
  induction f with
  | nil => simp [frIns, frGet]
  | cons p l ih =>
    obtain ⟨k, u⟩ := p
    simp only [frGet] at h
    have hks : k ≠ s := by rintro rfl; simp at h
    simp only [hks, if_false] at h
    simp only [frIns]
    split
    · simp only [frGet]
    · simp only [frGet, ih h]
      by_cases hk : k = n
      · subst hk; simp; intro h; exact absurd h.symm hks
      · simp [hk]

theorem frGet_frSet (f : Frm) (s : Nat) (o : BObj) (n : Nat) : frGet (frSet f s o) n = if s = n then (frGet f s).map (fun _ => o) else frGet f n := by
  induction f with
  | nil => simp [frSet, frGet]
  | cons p l ih =>
    obtain ⟨k, u⟩ := p
    simp only [frSet]
    split
    · rename_i hk; subst hk
      simp only [frGet]
      by_cases h : k = n <;> simp [h]
    · rename_i hk
      simp only [frGet, ih, hk, if_false]
      by_cases h : k = n
      · subst h; simp; intro h; exact absurd h.symm hk
      · simp [h]

theorem frSet_none {f : Frm} {s : Nat} {o : BObj} (n : Nat) : (frGet (frSet f s o) n = none ↔ frGet f n = none) := by
  rw [frGet_frSet]
  by_cases hs : s = n
  · subst hs; simp
  · simp [hs]

theorem cpGet_mem {cp : List (Nat × OL)} {t : Nat} {l : OL} (h : cpGet cp t = some l) : (t, l) ∈ cp := by
  induction cp with
  | nil => simp [cpGet] at h
  | cons p r ih =>
    obtain ⟨b, m⟩ := p
    simp only [cpGet] at h
    split at h
    · rename_i hb; subst hb; cases h; exact List.mem_cons_self
    · exact List.mem_cons_of_mem _ (ih h)

theorem mem_rmT {cp : List (Nat × OL)} {t : Nat} {e : Nat × OL} (h : e ∈ rmT cp t) : e ∈ cp ∧ e.1 ≠ t ∧ e.2 ≠ .t t := by
  induction cp with
  | nil => simp [rmT] at h
  | cons p r ih =>
    obtain ⟨b, m⟩ := p
    simp only [rmT] at h
    split at h
    · have := ih h; exact ⟨List.mem_cons_of_mem _ this.1, this.2⟩
    · rename_i hb
      simp only [not_or] at hb
      cases h with
      | head => exact ⟨List.mem_cons_self, hb⟩
      | tail _ h => have := ih h; exact ⟨List.mem_cons_of_mem _ this.1, this.2⟩

theorem mem_rmC {cp : List (Nat × OL)} {e : Nat × OL} (h : e ∈ rmC cp) : e ∈ cp ∧ ∃ n, e.2 = .t n := by
  induction cp with
  | nil => simp [rmC] at h
  | cons p r ih =>
    obtain ⟨b, m⟩ := p
    cases m with
    | t n =>
      simp only [rmC] at h
      cases h with
      | head => exact ⟨List.mem_cons_self, _, rfl⟩
      | tail _ h => have := ih h; exact ⟨List.mem_cons_of_mem _ this.1, this.2⟩
    | c r o => simp only [rmC] at h; have := ih h; exact ⟨List.mem_cons_of_mem _ this.1, this.2⟩
    | o p o => simp only [rmC] at h; have := ih h; exact ⟨List.mem_cons_of_mem _ this.1, this.2⟩

theorem mem_rmO {cp : List (Nat × OL)} {e : Nat × OL} (h : e ∈ rmO cp) : e ∈ cp ∧ ∀ o a, e.2 ≠ .o o a := by
  induction cp with
  | nil => simp [rmO] at h
  | cons p r ih =>
    obtain ⟨b, m⟩ := p
    cases m with
    | o p o => simp only [rmO] at h; have := ih h; exact ⟨List.mem_cons_of_mem _ this.1, this.2⟩
    | t n =>
      simp only [rmO] at h
      cases h with
      | head => exact ⟨List.mem_cons_self, by simp⟩
      | tail _ h => have := ih h; exact ⟨List.mem_cons_of_mem _ this.1, this.2⟩
    | c r o =>
      simp only [rmO] at h
      cases h with
      | head => exact ⟨List.mem_cons_self, by simp⟩
      | tail _ h => have := ih h; exact ⟨List.mem_cons_of_mem _ this.1, this.2⟩

theorem mem_inCp {cp : List (Nat × OL)} {a : Nat} {l : OL} {e : Nat × OL} (h : e ∈ inCp cp a l) : e = (a, l) ∨ e ∈ cp := by
  induction cp with
  | nil => simpa [inCp] using h
  | cons p r ih =>
    obtain ⟨b, m⟩ := p
    simp only [inCp] at h
    split at h
    · cases h with
      | head => exact .inl rfl
      | tail _ h => exact .inr h
    · cases h with
      | head => exact .inr List.mem_cons_self
      | tail _ h => exact (ih h).imp id (List.mem_cons_of_mem _)

/-! ### Values -/

theorem RepA.strip {ρ : List Nat} {I : Nat → Nat → Prop} {w : World} {fs : List (List (Nat × Nat))} {v : AV} {x : Value} (h : RepA ρ I w fs v x) : RepA ρ I w fs v.strip x := by
  cases h <;> simp only [AV.strip] <;> first | exact .d ‹_› | (constructor <;> assumption) | exact .dead _

theorem strip_ne (v : AV) (sz : Nat) (xs : List DV) : v.strip ≠ .os sz xs := by cases v <;> simp [AV.strip]

theorem HasLoc.strip {v : AV} {s : Nat} (h : HasLoc v.strip s) : HasLoc v s := by
  cases v <;> first | exact h | (simp only [AV.strip] at h; cases h)

theorem not_hasLoc_d {v : DV} {s : Nat} : ¬ HasLoc (.d v) s := by intro h; cases h
theorem not_hasLoc_os {sz : Nat} {xs : List DV} {s : Nat} : ¬ HasLoc (.os sz xs) s := by intro h; cases h

/-- A result: data alone. -/
theorem RepA.fs_free {ρ : List Nat} {I : Nat → Nat → Prop} {w : World} {v : AV} {x : Value} (h : RepA ρ I w [] v x) (fs : List (List (Nat × Nat))) : RepA ρ I w fs v x := by
  generalize hf : ([] : List (List (Nat × Nat))) = f0 at h
  induction h with
  | d h => exact .d h
  | os h => exact .os h
  | bp off h => subst hf; cases ‹Ref› <;> simp [resB] at h
  | mb h => subst hf; cases ‹Ref› <;> simp [resB] at h
  | it h => subst hf; cases ‹Ref› <;> simp [resB] at h
  | fn hl _ ih => exact .fn hl fun j c v h1 h2 => ih j c v h1 h2
  | tup hl _ ih => exact .tup hl fun j c v h1 h2 => ih j c v h1 h2
  | dead x => exact .dead x

theorem RepA.no_loc {ρ : List Nat} {I : Nat → Nat → Prop} {w : World} {v : AV} {x : Value} (h : RepA ρ I w [] v x) (s : Nat) : ¬ HasLoc v s := by
  generalize hf : ([] : List (List (Nat × Nat))) = f0 at h
  induction h with
  | d h => exact not_hasLoc_d
  | os h => exact not_hasLoc_os
  | bp off h => subst hf; cases ‹Ref› <;> simp [resB] at h
  | mb h => subst hf; cases ‹Ref› <;> simp [resB] at h
  | it h => subst hf; cases ‹Ref› <;> simp [resB] at h
  | fn hl _ ih =>
    intro hh; cases hh with | fn hc h =>
    obtain ⟨j, hj⟩ := List.getElem?_of_mem hc
    have hlt := (List.getElem?_eq_some_iff.1 hj).1
    exact ih j _ _ hj (Array.getElem?_eq_getElem (by omega)) h
  | tup hl _ ih =>
    intro hh; cases hh with | tup hc h =>
    obtain ⟨j, hj⟩ := List.getElem?_of_mem hc
    have hlt := (List.getElem?_eq_some_iff.1 hj).1
    exact ih j _ _ hj (Array.getElem?_eq_getElem (by omega)) h
  | dead x => intro hh; cases hh

theorem Act.put_get (a : Act) (d : Option Nat) (x : Value) (hd : ∀ t, d = some t → t < a.tmps.size) (n : Nat) :
    (a.put d x).tmps.getD n undef = if d = some n then x else a.tmps.getD n undef := by
  cases d with
  | none => simp [Act.put]
  | some t =>
    have := hd t rfl
    simp only [Act.put, Array.getD_eq_getD_getElem?, Array.getElem?_setIfInBounds]
    by_cases h : t = n
    · subst h; simp [this]
    · simp [h]

theorem Act.put_size (a : Act) (d : Option Nat) (x : Value) : (a.put d x).tmps.size = a.tmps.size := by cases d <;> simp [Act.put]

theorem eval_tmp (a : Act) (n : Nat) : a.eval (.tmp n) = a.tmps.getD n undef := rfl

theorem cellAt_eq {α : Type} (l : List α) (n : Nat) : cellAt l n = l[n]? := by
  induction l generalizing n with
  | nil => simp [cellAt]
  | cons a l ih => cases n <;> simp [cellAt, ih]

theorem setAt_eq {α : Type} (l : List α) (n : Nat) (v : α) : setAt l n v = l.set n v := by
  induction l generalizing n with
  | nil => simp [setAt]
  | cons a l ih => cases n <;> simp [setAt, ih]

theorem toDL_spec : ∀ {l : List AV} {r : List DV}, AV.toDL l = some r → r.length = l.length ∧ ∀ (j : Nat) a b, l[j]? = some a → r[j]? = some b → a.toD = some b := by
  intro l
  induction l with
  | nil => intro r h; simp only [AV.toDL, Option.some.injEq] at h; subst h; simp
  | cons a l ih =>
    intro r h
    simp only [AV.toDL] at h
    split at h
    · rename_i b bs hb hbs
      simp only [Option.some.injEq] at h; subst h
      obtain ⟨h1, h2⟩ := ih hbs
      refine ⟨by simp [h1], ?_⟩
      intro j x y hx hy
      cases j with
      | zero => simp at hx hy; subst hx; subst hy; exact hb
      | succ j => simp at hx hy; exact h2 j x y hx hy
    · cases h

theorem toD_rep {ρ : List Nat} {I : Nat → Nat → Prop} {w : World} {fs : List (List (Nat × Nat))} {v : AV} {x : Value} (h : RepA ρ I w fs v x) : ∀ {d : DV}, v.toD = some d → RepD ρ I w d x := by
  induction h with
  | d h => intro d e; simp only [AV.toD, Option.some.injEq] at e; subst e; exact h
  | os h => intro d e; simp only [AV.toD, Option.some.injEq] at e; subst e; exact h
  | bp off h => intro d e; simp [AV.toD] at e
  | mb h => intro d e; simp [AV.toD] at e
  | it h => intro d e; simp [AV.toD] at e
  | fn hl _ ih =>
    intro d e
    simp only [AV.toD] at e
    split at e
    · rename_i vs hvs
      simp only [Option.some.injEq] at e; subst e
      obtain ⟨h1, h2⟩ := toDL_spec hvs
      refine .fd (by omega) ?_
      intro j c y hc hy
      have hlt := (List.getElem?_eq_some_iff.1 hc).1
      exact ih j _ y (List.getElem?_eq_getElem (by omega)) hy (h2 j _ c (List.getElem?_eq_getElem (by omega)) hc)
    · cases e
  | tup hl _ ih => intro d e; simp [AV.toD] at e
  | dead x => intro d e; simp [AV.toD] at e

/-! ### Constants -/

theorem ofS_rep {v : Value} {d : DV} (h : ofS v = some d) (ρ : List Nat) (I : Nat → Nat → Prop) (w : World) : RepD ρ I w d v ∧ d.one = true := by
  unfold ofS at h
  split at h <;> simp only [Option.some.injEq, reduceCtorEq] at h <;> subst h <;> refine ⟨?_, rfl⟩ <;> constructor

theorem mapM_some {α β : Type} {f : α → Option β} : ∀ {l : List α} {r : List β}, l.mapM f = some r → r.length = l.length ∧ ∀ (j : Nat) a b, l[j]? = some a → r[j]? = some b → f a = some b := by
  intro l
  induction l with
  | nil => intro r h; simp at h; subst h; simp
  | cons a l ih =>
    intro r h
    simp only [List.mapM_cons, bind, Option.bind_eq_some_iff, pure, Option.some.injEq] at h
    obtain ⟨b, hb, r', hr', rfl⟩ := h
    obtain ⟨h1, h2⟩ := ih hr'
    refine ⟨by simp [h1], ?_⟩
    intro j x y hx hy
    cases j with
    | zero => simp at hx hy; subst hx; subst hy; exact hb
    | succ j => simp at hx hy; exact h2 j x y hx hy

theorem ofC_rep {v : Value} {d : DV} (h : ofC v = some d) (ρ : List Nat) (I : Nat → Nat → Prop) (w : World) : RepD ρ I w d v := by
  unfold ofC at h
  split at h
  · rename_i cs
    simp only [Option.map_eq_some_iff] at h
    obtain ⟨ds, hds, rfl⟩ := h
    obtain ⟨h1, h2⟩ := mapM_some hds
    refine .agg (by simpa using h1.symm) ?_ ?_
    · intro c hc
      obtain ⟨j, hj⟩ := List.getElem?_of_mem hc
      have hlt := (List.getElem?_eq_some_iff.1 hj).1
      exact (ofS_rep (h2 j _ c (List.getElem?_eq_getElem (by omega)) hj) ρ I w).2
    · intro j c v hc hv
      exact (ofS_rep (h2 j v c (by simpa using hv) hc) ρ I w).1
  · exact (ofS_rep h ρ I w).1

end Go.Px

/- How the relation between abstract states and worlds is kept. -/
namespace Go.Px

theorem OwnC.mono {w w' : World} {I I' : Nat → Nat → Prop} {sz : Nat} {xs : List DV} {v : Value} {ob : Option Nat} (h : OwnC w I sz xs v ob)
    (ht : ∀ b, ob = some b → w'.heap[b]? = w.heap[b]? ∧ ∀ k, I' b k → I b k) : OwnC w' I' sz xs v ob := by
  obtain ⟨b, off, cap, hv, hc⟩ := h
  refine ⟨b, off, cap, hv, fun hlt => ?_⟩
  obtain ⟨ho, ⟨arr, t, fz, h1, h2, h3⟩, h4⟩ := hc hlt
  obtain ⟨e1, e2⟩ := ht b ho
  exact ⟨ho, ⟨arr, t, fz, e1.trans h1, h2, h3⟩, fun k hk hi => h4 k hk (e2 k hi)⟩

theorem CellsOk.mono {w w' : World} {g g' : Gh} {fs fs' : List (List (Nat × Nat))} {b : Nat} {cs : List AV} (h : CellsOk w g fs b cs) (hb : w'.heap[b]? = w.heap[b]?)
    (hρ : g.ρ <+: g'.ρ) (hI : ∀ b k, g.I b k → g'.I b k) (hc : ∀ b k, g.I b k → w'.cell? ⟨b, k, none⟩ = w.cell? ⟨b, k, none⟩)
    (hf : ∀ c ∈ cs, ∀ r x, resB fs r = some x → (∀ s ∈ r.locs, HasLoc c s) → resB fs' r = some x)
    (ho : ∀ i, g'.owM b i = g.owM b i) (ht : ∀ i b', g.owM b i = some b' → w'.heap[b']? = w.heap[b']? ∧ ∀ k, g'.I b' k → g.I b' k) : CellsOk w' g' fs' b cs := by
  obtain ⟨arr, t, h1, h2, h3⟩ := h
  refine ⟨arr, t, hb.trans h1, h2, fun i c hi => ?_⟩
  obtain ⟨v, hv, hr, h1, hown⟩ := h3 i c hi
  refine ⟨v, hv, hr.mono hρ hI hc (fun r x hx hs => hf c (List.mem_of_getElem? hi) r x hx hs), h1, fun sz xs e => ?_⟩
  rw [ho]
  exact (hown sz xs e).mono fun b' hb' => ht i b' hb'

theorem MapOk.mono {w w' : World} {g g' : Gh} {b : Nat} {es : List ME} {clk : Nat} (h : MapOk w g b es clk) (hb : w'.heap[b]? = w.heap[b]?)
    (hρ : g.ρ <+: g'.ρ) (hI : ∀ b k, g.I b k → g'.I b k) (hc : ∀ b k, g.I b k → w'.cell? ⟨b, k, none⟩ = w.cell? ⟨b, k, none⟩) : MapOk w' g' b es clk := by
  obtain ⟨arr, h1, h2, h3⟩ := h
  refine ⟨arr, hb.trans h1, h2, fun i e hi => ?_⟩
  obtain ⟨m, hm, a1, a2, a3⟩ := h3 i e hi
  exact ⟨m, hm, a1.mono hρ hI hc, a2.mono hρ hI hc, a3⟩

/-- The values that a box holds. -/
def BObj.vals : BObj → List AV
  | .cells cs => cs
  | _ => []

theorem BoxOk.mono {w w' : World} {g g' : Gh} {fs fs' : List (List (Nat × Nat))} {b : Nat} {o : BObj} (h : BoxOk w g fs b o) (hb : w'.heap[b]? = w.heap[b]?)
    (hρ : g.ρ <+: g'.ρ) (hI : ∀ b k, g.I b k → g'.I b k) (hc : ∀ b k, g.I b k → w'.cell? ⟨b, k, none⟩ = w.cell? ⟨b, k, none⟩)
    (hf : ∀ c ∈ o.vals, ∀ r x, resB fs r = some x → (∀ s ∈ r.locs, HasLoc c s) → resB fs' r = some x)
    (ho : ∀ i, g'.owM b i = g.owM b i) (ht : ∀ i b', g.owM b i = some b' → w'.heap[b']? = w.heap[b']? ∧ ∀ k, g'.I b' k → g.I b' k) : BoxOk w' g' fs' b o := by
  cases o with
  | cells cs => exact CellsOk.mono h hb hρ hI hc hf ho ht
  | map es clk => exact MapOk.mono h hb hρ hI hc
  | iter m s t => trivial

/-! ### Places -/

theorem lkN_mem {f : List (Nat × Nat)} {s b : Nat} (h : lkN f s = some b) : (s, b) ∈ f := by
  induction f with
  | nil => simp [lkN] at h
  | cons p l ih =>
    obtain ⟨k, c⟩ := p
    simp only [lkN] at h
    split at h
    · rename_i hk; subst hk; cases h; exact List.mem_cons_self
    · exact List.mem_cons_of_mem _ (ih h)

theorem resB_mem {fs : List (List (Nat × Nat))} {r : Ref} {b : Nat} (h : resB fs r = some b) : b ∈ fs.flatMap fun f => f.map Prod.snd := by
  induction fs generalizing r with
  | nil => cases r <;> simp [resB] at h
  | cons f fs ih =>
    simp only [List.flatMap_cons, List.mem_append]
    cases r with
    | loc s => exact .inl (List.mem_map.2 ⟨_, lkN_mem h, rfl⟩)
    | up r => exact .inr (ih h)

theorem lkN_inj {f : List (Nat × Nat)} (hn : (f.map Prod.snd).Nodup) {s s' b : Nat} (h : lkN f s = some b) (h' : lkN f s' = some b) : s = s' := by
  induction f with
  | nil => simp [lkN] at h
  | cons p l ih =>
    obtain ⟨k, c⟩ := p
    simp only [List.map_cons, List.nodup_cons] at hn
    simp only [lkN] at h h'
    split at h
    · rename_i hk; cases h
      split at h'
      · rename_i hk'; exact hk.symm.trans hk'
      · exact absurd (List.mem_map.2 ⟨_, lkN_mem h', rfl⟩) hn.1
    · split at h'
      · cases h'; exact absurd (List.mem_map.2 ⟨_, lkN_mem h, rfl⟩) hn.1
      · exact ih hn.2 h h'

theorem resB_inj {fs : List (List (Nat × Nat))} (hn : (fs.flatMap fun f => f.map Prod.snd).Nodup) {r r' : Ref} {b : Nat} (h : resB fs r = some b) (h' : resB fs r' = some b) : r = r' := by
  induction fs generalizing r r' with
  | nil => cases r <;> simp [resB] at h
  | cons f fs ih =>
    simp only [List.flatMap_cons, List.nodup_append] at hn
    cases r with
    | loc s =>
      cases r' with
      | loc s' => rw [lkN_inj hn.1 h h']
      | up r' => exact absurd rfl (hn.2.2 b (List.mem_map.2 ⟨_, lkN_mem h, rfl⟩) b (resB_mem h'))
    | up r =>
      cases r' with
      | loc s' => exact absurd rfl (hn.2.2 b (List.mem_map.2 ⟨_, lkN_mem h', rfl⟩) b (resB_mem h))
      | up r' => rw [ih hn.2.1 h h']

theorem plB_mem {g : Gh} {U : List Frm} {H : Option (List BObj)} {p : Pl} {o : BObj} {b : Nat} (hp : plGet U H p = some o) (hb : plB g p = some b) : b ∈ blks g H := by
  unfold blks
  cases p with
  | fr r => exact List.mem_append_right _ (resB_mem hb)
  | ob i =>
    cases H with
    | none => simp [plGet, hGet] at hp
    | some os => exact List.mem_append_left _ (List.mem_of_getElem? hb)

theorem plB_inj {g : Gh} {H : Option (List BObj)} (hn : (blks g H).Nodup) {U : List Frm} {p p' : Pl} {o o' : BObj} {b : Nat} (hp : plGet U H p = some o) (hp' : plGet U H p' = some o') (h : plB g p = some b) (h' : plB g p' = some b) : p = p' := by
  unfold blks at hn
  rw [List.nodup_append] at hn
  cases p with
  | fr r =>
    cases p' with
    | fr r' => rw [resB_inj hn.2.1 h h']
    | ob i' =>
      cases H with
      | none => simp [plGet, hGet] at hp'
      | some os => exact absurd rfl (hn.2.2 b (List.mem_of_getElem? h') b (resB_mem h))
  | ob i =>
    cases H with
    | none => simp [plGet, hGet] at hp
    | some os =>
      cases p' with
      | fr r' => exact absurd rfl (hn.2.2 b (List.mem_of_getElem? h) b (resB_mem h'))
      | ob i' =>
        have h1 := List.getElem?_eq_some_iff.1 (show g.ρ[i]? = some b from h)
        have h2 := List.getElem?_eq_some_iff.1 (show g.ρ[i']? = some b from h')
        have hp' := List.pairwise_iff_getElem.1 hn.1
        rcases Nat.lt_trichotomy i i' with hlt | rfl | hlt
        · exact absurd (h1.2.trans h2.2.symm) (hp' i i' h1.1 h2.1 hlt)
        · rfl
        · exact absurd (h2.2.trans h1.2.symm) (hp' i' i h2.1 h1.1 hlt)

def plSet (U : List Frm) (H : Option (List BObj)) (p : Pl) (o : BObj) : List Frm × Option (List BObj) :=
  match p with
  | .fr r => (refSet U r o, H)
  | .ob i => (U, hSet H i o)

theorem refGet_refSet (U : List Frm) (r : Ref) (o : BObj) (r' : Ref) : refGet (refSet U r o) r' = if r = r' then (refGet U r).map (fun _ => o) else refGet U r' := by
  induction U generalizing r r' with
  | nil => cases r <;> cases r' <;> simp [refSet, refGet]
  | cons f U ih =>
    cases r with
    | loc s =>
      cases r' with
      | loc s' => simp only [refSet, refGet, frGet_frSet, Ref.loc.injEq]
      | up r' => simp [refSet, refGet]
    | up r =>
      cases r' with
      | loc s' => simp [refSet, refGet]
      | up r' => simp only [refSet, refGet, ih, Ref.up.injEq]

theorem refSet_length (U : List Frm) (r : Ref) (o : BObj) : (refSet U r o).length = U.length := by
  induction U generalizing r with
  | nil => cases r <;> rfl
  | cons f U ih => cases r <;> simp [refSet, ih]

theorem plGet_plSet (U : List Frm) (H : Option (List BObj)) (p : Pl) (o : BObj) (p' : Pl) :
    plGet (plSet U H p o).1 (plSet U H p o).2 p' = if p = p' then (plGet U H p).map (fun _ => o) else plGet U H p' := by
  cases p with
  | fr r =>
    cases p' with
    | fr r' => simp only [plSet, plGet, refGet_refSet, Pl.fr.injEq]
    | ob i' => simp [plSet, plGet]
  | ob i =>
    cases p' with
    | fr r' => simp [plSet, plGet]
    | ob i' =>
      simp only [plSet, plGet, hGet, hSet, Pl.ob.injEq]
      cases H with
      | none => simp
      | some os =>
        simp only [Option.map_some, Option.bind_some, List.getElem?_set]
        by_cases h : i = i'
        · subst h
          simp only [if_true]
          by_cases hl : i < os.length
          · simp [hl]
          · simp [hl]
        · simp [h]

theorem blks_plSet (g : Gh) (U : List Frm) (H : Option (List BObj)) (p : Pl) (o : BObj) : blks g (plSet U H p o).2 = blks g H := by
  cases p with
  | fr r => rfl
  | ob i => cases H <;> rfl

theorem cell?_of {w w' : World} {b : Nat} (h : w'.heap[b]? = w.heap[b]?) (k : Nat) : w'.cell? ⟨b, k, none⟩ = w.cell? ⟨b, k, none⟩ := by
  simp only [World.cell?, h]

/-- One place's content turns. -/
theorem RelM.upd {E : Env} {g : Gh} {U : List Frm} {H : Option (List BObj)} {w : World} (h : RelM E g U H w) {p : Pl} {o o' : BObj} {b : Nat}
    (hp : plGet U H p = some o) (hb : plB g p = some b) (w' : World) (ow : Nat → Nat → Option Nat)
    (hsz : w'.heap.size = w.heap.size) (hoth : ∀ x, x ≠ b → w'.heap[x]? = w.heap[x]?) (hos : w'.os = w.os) (hta : w'.tape = w.tape) (hou : w'.output = w.output)
    (how : ∀ x i, x ≠ b → ow x i = g.owM x i)
    (how' : ∀ i c, ow b i = some c → c ∉ blks g H ∧ E.w0.heap.size ≤ c ∧ c < w.heap.size ∧ ∀ x j, x ≠ b → g.owM x j ≠ some c)
    (hinj : ∀ i j c, ow b i = some c → ow b j = some c → i = j)
    (hok : BoxOk w' { g with owM := ow } (plFs g.fs p) b o') : RelM E { g with owM := ow } (plSet U H p o').1 (plSet U H p o').2 w' := by
  have hmem := plB_mem hp hb
  have hI : ∀ c k, g.I c k → w'.cell? ⟨c, k, none⟩ = w.cell? ⟨c, k, none⟩ := fun c k hc => cell?_of (hoth c fun e => (h.new b hmem).2.2 k (e ▸ hc)) k
  have hbl : blks { g with owM := ow } (plSet U H p o').2 = blks g H := blks_plSet g U H p o'
  refine ⟨?_, ?_, ?_, ?_, ?_, ?_, ?_, ?_, ?_⟩
  · refine h.below.trans ⟨hos, hta, hou, by omega, fun k hk => hoth k ?_⟩
    have := (h.new b hmem).1; omega
  · cases p with
    | fr r => simpa [plSet, refSet_length] using h.len
    | ob i => exact h.len
  · intro os hs
    cases p with
    | fr r => exact h.hlen os hs
    | ob i =>
      simp only [plSet, hSet, Option.map_eq_some_iff] at hs
      obtain ⟨os', e, rfl⟩ := hs
      simpa using h.hlen os' e
  · intro p' o'' hp'
    rw [plGet_plSet] at hp'
    split at hp'
    · rename_i e; subst e
      rw [hp] at hp'; simp only [Option.map_some, Option.some.injEq] at hp'; subst hp'
      exact ⟨b, hb, hok⟩
    · rename_i hne
      obtain ⟨b', hb', hok'⟩ := h.con p' o'' hp'
      have hbb : b' ≠ b := by rintro rfl; exact hne (plB_inj h.nd hp hp' hb hb')
      refine ⟨b', hb', hok'.mono (hoth b' hbb) (List.prefix_refl _) (fun _ _ x => x) hI (fun _ _ _ _ hx _ => hx) (fun i => how b' i hbb) (fun i c hc => ⟨hoth c ?_, fun _ x => x⟩)⟩
      rintro rfl; exact (h.own b' i c hc).2.1 hmem
  · rw [hbl]; exact h.nd
  · rw [hbl]; intro x hx; obtain ⟨a1, a2, a3⟩ := h.new x hx; exact ⟨a1, by omega, a3⟩
  · rw [hbl]
    intro x i c hc
    by_cases hx : x = b
    · subst hx; obtain ⟨c1, c2, c3, _⟩ := how' i c hc; exact ⟨hmem, c1, c2, by omega⟩
    · have := h.own x i c ((how x i hx) ▸ hc); exact ⟨this.1, this.2.1, this.2.2.1, by omega⟩
  · intro x i y j c hx hy
    by_cases hxb : x = b
    · subst hxb
      by_cases hyb : y = x
      · subst hyb; exact ⟨rfl, hinj i j c hx hy⟩
      · exact absurd ((how y j hyb) ▸ hy) ((how' i c hx).2.2.2 y j hyb)
    · by_cases hyb : y = b
      · subst hyb; exact absurd ((how x i hxb) ▸ hx) ((how' j c hy).2.2.2 x i hxb)
      · exact h.inj x i y j c ((how x i hxb) ▸ hx) ((how y j hyb) ▸ hy)
  · intro c k hc; have := h.lt c k hc; omega

/-- The world grows beside all that is told: more may be told of what nobody may write. -/
theorem RelM.grow {E : Env} {g : Gh} {U : List Frm} {H : Option (List BObj)} {w : World} (h : RelM E g U H w) (w' : World) (I' : Nat → Nat → Prop)
    (hsz : w.heap.size ≤ w'.heap.size) (hos : w'.os = w.os) (hta : w'.tape = w.tape) (hou : w'.output = w.output)
    (hold : ∀ x, x < E.w0.heap.size → w'.heap[x]? = w.heap[x]?)
    (hbl : ∀ b ∈ blks g H, w'.heap[b]? = w.heap[b]? ∧ ∀ k, ¬ I' b k)
    (how : ∀ x i b, g.owM x i = some b → w'.heap[b]? = w.heap[b]? ∧ ∀ k, I' b k → g.I b k)
    (hI : ∀ b k, g.I b k → I' b k) (hIc : ∀ b k, g.I b k → w'.cell? ⟨b, k, none⟩ = w.cell? ⟨b, k, none⟩)
    (hlt : ∀ b k, I' b k → b < w'.heap.size) : RelM E { g with I := I' } U H w' := by
  refine ⟨?_, h.len, h.hlen, ?_, h.nd, ?_, ?_, h.inj, hlt⟩
  · exact h.below.trans ⟨hos, hta, hou, hsz, fun k hk => hold k hk⟩
  · intro p o hp
    obtain ⟨b, hb, hok⟩ := h.con p o hp
    exact ⟨b, hb, hok.mono (hbl b (plB_mem hp hb)).1 (List.prefix_refl _) hI hIc (fun _ _ _ _ hx _ => hx) (fun _ => rfl) (fun i c hc => how b i c hc)⟩
  · intro b hb; obtain ⟨a1, a2, a3⟩ := h.new b hb; exact ⟨a1, by omega, (hbl b hb).2⟩
  · intro x i b hx; obtain ⟨a1, a2, a3, a4⟩ := h.own x i b hx; exact ⟨a1, a2, a3, by omega⟩

/-- A new frame's box. -/
theorem RelM.allocB {E : Env} {g : Gh} {f : List (Nat × Nat)} {fs : List (List (Nat × Nat))} {bx : Frm} {U : List Frm} {H : Option (List BObj)} {w : World}
    (h : RelM E g (bx :: U) H w) (hfs : g.fs = f :: fs) {t : Nat} (ht : frGet bx t = none) (o : BObj) (x : Obj) (ow : Nat → Nat → Option Nat)
    (hcl : ∀ s cs, frGet bx s = some (.cells cs) → ∀ c ∈ cs, ∀ s', HasLoc c s' → frGet bx s' ≠ none)
    (how : ∀ y i, y ≠ w.heap.size → ow y i = g.owM y i)
    (how' : ∀ i c, ow w.heap.size i = some c → c ∉ blks g H ∧ E.w0.heap.size ≤ c ∧ c < w.heap.size ∧ ∀ y j, g.owM y j ≠ some c)
    (hinj : ∀ i j c, ow w.heap.size i = some c → ow w.heap.size j = some c → i = j)
    (hok : BoxOk (w.alloc x) { g with fs := ((t, w.heap.size) :: f) :: fs, owM := ow } (((t, w.heap.size) :: f) :: fs) w.heap.size o) :
    RelM E { g with fs := ((t, w.heap.size) :: f) :: fs, owM := ow } (frIns bx t o :: U) H (w.alloc x) := by
  have hold : ∀ k, k < w.heap.size → (w.alloc x).heap[k]? = w.heap[k]? := fun k hk => RowKit.Below.heap_alloc w x k hk
  have hsz : (w.alloc x).heap.size = w.heap.size + 1 := by simp
  have hI : ∀ c k, g.I c k → (w.alloc x).cell? ⟨c, k, none⟩ = w.cell? ⟨c, k, none⟩ := fun c k hc => cell?_of (hold c (h.lt c k hc)) k
  have hblk : ∀ b, b ∈ blks { g with fs := ((t, w.heap.size) :: f) :: fs, owM := ow } H ↔ b = w.heap.size ∨ b ∈ blks g H := by
    intro b
    simp only [blks, hfs, List.flatMap_cons, List.map_cons, List.mem_append, List.mem_cons]
    constructor
    · rintro (a | a | a) <;> simp_all
      rcases a with a | a <;> simp [a]
    · rintro (a | a | a) <;> simp_all
      rcases a with a | a <;> simp [a]
  refine ⟨?_, ?_, h.hlen, ?_, ?_, ?_, ?_, ?_, ?_⟩
  · exact h.below.alloc (by have := h.below.size; omega) x
  · have := h.len; simp [hfs] at this ⊢; exact this
  · intro p o'' hp
    by_cases hpt : p = .fr (.loc t)
    · subst hpt
      simp only [plGet, refGet, frGet_frIns ht, if_true, Option.some.injEq] at hp
      subst hp
      exact ⟨w.heap.size, by simp [plB, resB, lkN], hok⟩
    · have hp0 : plGet (bx :: U) H p = some o'' := by
        cases p with
        | fr r =>
          cases r with
          | loc s =>
            simp only [plGet, refGet, frGet_frIns ht] at hp ⊢
            split at hp
            · rename_i e; subst e; exact absurd rfl hpt
            · exact hp
          | up r => exact hp
        | ob i => exact hp
      obtain ⟨b, hb, hok'⟩ := h.con p o'' hp0
      have hbl := (h.new b (plB_mem hp0 hb)).2.1
      have hbB : plB { g with fs := ((t, w.heap.size) :: f) :: fs, owM := ow } p = some b := by
        cases p with
        | fr r =>
          cases r with
          | loc s =>
            simp only [plB, hfs, resB, lkN] at hb ⊢
            rw [if_neg (by rintro rfl; exact hpt rfl)]; exact hb
          | up r => simpa [plB, hfs, resB] using hb
        | ob i => exact hb
      refine ⟨b, hbB, hok'.mono (hold b hbl) (List.prefix_refl _) (fun _ _ x => x) hI ?_ (fun i => how b i (by omega)) (fun i c hc => ⟨hold c (h.own b i c hc).2.2.2, fun _ x => x⟩)⟩
      intro c hc r y hr hs
      cases p with
      | fr pr =>
        cases pr with
        | loc s =>
          simp only [plFs, lvl, hfs] at hr ⊢
          cases r with
          | loc s' =>
            simp only [resB, lkN] at hr ⊢
            have hh : HasLoc c s' := hs s' (by simp [Ref.locs])
            have : frGet bx s' ≠ none := by
              cases o'' with
              | cells cs => exact hcl s cs hp0 c hc s' hh
              | map es k => simp [BObj.vals] at hc
              | iter m a b => simp [BObj.vals] at hc
            rw [if_neg (by rintro rfl; exact this ht)]; exact hr
          | up r => simpa [resB] using hr
        | up pr => simp only [plFs, lvl, hfs] at hr ⊢; exact hr
      | ob i => exact hr
  · have hn := h.nd
    simp only [blks, hfs, List.flatMap_cons, List.map_cons, List.cons_append] at hn ⊢
    rw [List.nodup_append] at hn ⊢
    refine ⟨hn.1, List.nodup_cons.2 ⟨?_, hn.2.1⟩, ?_⟩
    · intro hm
      have := (h.new w.heap.size (by simp only [blks, hfs, List.flatMap_cons]; exact List.mem_append_right _ hm)).2.1
      omega
    · intro a ha b hb
      rcases List.mem_cons.1 hb with rfl | hb
      · rintro rfl
        have := (h.new w.heap.size (by simp only [blks]; exact List.mem_append_left _ ha)).2.1
        omega
      · exact hn.2.2 a ha b hb
  · intro b hb
    rcases (hblk b).1 hb with rfl | hb
    · exact ⟨h.below.size, by omega, fun k hk => by have := h.lt _ k hk; omega⟩
    · obtain ⟨a1, a2, a3⟩ := h.new b hb; exact ⟨a1, by omega, a3⟩
  · intro y i c hc
    by_cases hy : y = w.heap.size
    · subst hy
      obtain ⟨c1, c2, c3, c4⟩ := how' i c hc
      exact ⟨(hblk _).2 (.inl rfl), fun hm => (hblk c).1 hm |>.elim (by omega) c1, c2, by omega⟩
    · obtain ⟨a1, a2, a3, a4⟩ := h.own y i c ((how y i hy) ▸ hc)
      exact ⟨(hblk y).2 (.inr a1), fun hm => (hblk c).1 hm |>.elim (by omega) a2, a3, by omega⟩
  · intro y i z j c hy hz
    by_cases h1 : y = w.heap.size
    · subst h1
      by_cases h2 : z = w.heap.size
      · subst h2; exact ⟨rfl, hinj i j c hy hz⟩
      · exact absurd ((how z j h2) ▸ hz) ((how' i c hy).2.2.2 z j)
    · by_cases h2 : z = w.heap.size
      · subst h2; exact absurd ((how y i h1) ▸ hy) ((how' j c hz).2.2.2 y i)
      · exact h.inj y i z j c ((how y i h1) ▸ hy) ((how z j h2) ▸ hz)
  · intro c k hc; have := h.lt c k hc; omega

end Go.Px

/- What one operation does: slots. -/
namespace Go.Px

/-- What an operation has come to: a value for its slot, a world, and the relation anew. -/
def Res (E : Env) (sem : Sem Next) (g : Gh) (oT : Nat → Option Nat) (h0 : Option (List BObj)) (a : Act) (w : World) (dst : Option Nat) (st' : St) : Prop :=
  ∃ v w' g' oT', (sem.run E.P w = .ok (.value v) w' ∨ (sem.run E.P w = .ok .skip w' ∧ v = undef)) ∧
    RS E g' oT' st' (a.put dst v) w' ∧ Stp g oT h0 w g' oT' st'.hp w'

theorem Stp.same {g : Gh} {oT oT' : Nat → Option Nat} {h h' : Option (List BObj)} {w : World} (hm : ∀ b, Mine g oT' h' b → Mine g oT h b ∨ w.heap.size ≤ b) (hs : h'.isSome = h.isSome) :
    Stp g oT h w g oT' h' w :=
  ⟨Nat.le_refl _, rfl, rfl, rfl, fun _ _ h => h, fun _ _ _ => rfl, fun _ _ _ => ⟨rfl, fun _ h => h⟩, hm, List.prefix_refl _, rfl, hs, fun _ => rfl⟩

theorem RS.put {E : Env} {g : Gh} {oT : Nat → Option Nat} {st : St} {a : Act} {w : World} (h : RS E g oT st a w) (d : Option Nat) (v : AV) (x : Value) (ob : Option Nat)
    (hd : ∀ t, d = some t → t < a.tmps.size) (hv : RepA g.ρ g.I w g.fs v x) (hl : ∀ s, HasLoc v s → frGet st.bx s ≠ none)
    (how : ∀ sz xs, v = .os sz xs → OwnC w g.I sz xs x ob)
    (hob : ∀ b, ob = some b → b ∉ blks g st.hp ∧ (∀ y i, g.owM y i ≠ some b) ∧ E.w0.heap.size ≤ b ∧ b < w.heap.size ∧ ∀ t, d ≠ some t → oT t ≠ some b) :
    RS E g (fun t => if d = some t then ob else oT t) (st.put d v) (a.put d x) w := by
  cases d with
  | none => simpa [St.put, Act.put] using h
  | some t =>
    have hg := Act.put_get a (some t) x hd
    have hst : (st.put (some t) v).bx = st.bx ∧ (st.put (some t) v).hp = st.hp ∧ (st.put (some t) v).up = st.up := ⟨rfl, rfl, rfl⟩
    refine ⟨h.m, ?_, ?_, ?_, ?_, ?_, ?_, h.clB, fun n r off hn => h.clC n r off (mem_rmT hn).1⟩
    · intro n
      simp only [St.put, getT_setT, hg, Option.some.injEq]
      split
      · exact hv
      · exact h.tm n
    · intro n sz xs hn
      simp only [St.put, getT_setT] at hn
      simp only [hg, Option.some.injEq]
      split at hn
      · rename_i e; subst e; simp only [if_true]; exact how sz xs hn
      · rename_i e; simp only [e, if_false]; exact h.ot n sz xs hn
    · intro n b hb
      simp only [Option.some.injEq] at hb
      split at hb
      · obtain ⟨b1, b2, b3, b4, _⟩ := hob b hb; exact ⟨b1, b2, b3, b4⟩
      · exact h.on n b hb
    · intro n m b hn hm
      simp only [Option.some.injEq] at hn hm
      split at hn
      · rename_i e1
        split at hm
        · rename_i e2; exact e1.symm.trans e2
        · rename_i e2; exact absurd hm ((hob b hn).2.2.2.2 m (by simpa using e2))
      · rename_i e1
        split at hm
        · exact absurd hn ((hob b hm).2.2.2.2 n (by simpa using e1))
        · exact h.oi n m b hn hm
    · intro n l hn
      obtain ⟨h1, h2, h3⟩ := mem_rmT hn
      have hc := h.cp n l h1
      simp only at h2
      rw [hg, if_neg (by simpa using fun e => h2 e.symm)]
      cases l with
      | t m =>
        show (a.put (some t) x).tmps.getD m undef = _
        rw [hg, if_neg (by simp only [Option.some.injEq]; rintro rfl; exact h3 rfl)]; exact hc
      | c r off => exact hc
      | o o off => exact hc
    · intro n s hs
      simp only [St.put, getT_setT] at hs
      split at hs
      · exact hl s hs
      · exact h.clT n s hs

theorem mine_put {g : Gh} {oT : Nat → Option Nat} {h : Option (List BObj)} {d : Option Nat} {ob : Option Nat} {b : Nat} (hb : Mine g (fun t => if d = some t then ob else oT t) h b) :
    Mine g oT h b ∨ ob = some b := by
  rcases hb with hb | hb | ⟨t, ht⟩
  · exact .inl (.inl hb)
  · exact .inl (.inr (.inl hb))
  · simp only at ht
    split at ht
    · exact .inr ht
    · exact .inl (.inr (.inr ⟨t, ht⟩))

/-- An operation that only reckons. -/
theorem Res.pure {E : Env} {sem : Sem Next} {g : Gh} {oT : Nat → Option Nat} {st : St} {a : Act} {w : World} (h : RS E g oT st a w) (d : Option Nat) (v : AV) (x : Value)
    (hd : ∀ t, d = some t → t < a.tmps.size) (hrun : sem.run E.P w = .ok (.value x) w) (hv : RepA g.ρ g.I w g.fs v x) (hl : ∀ s, HasLoc v s → frGet st.bx s ≠ none)
    (hno : ∀ sz xs, v ≠ .os sz xs) : Res E sem g oT st.hp a w d (st.put d v) := by
  refine ⟨x, w, g, _, .inl hrun, h.put d v x none hd hv hl (fun sz xs e => absurd e (hno sz xs)) (by simp), ?_⟩
  have e : (st.put d v).hp = st.hp := by cases d <;> rfl
  rw [e]
  refine Stp.same (fun b hb => ?_) rfl
  rcases mine_put hb with h | h
  · exact .inl h
  · cases h

/-! ### Operands -/

theorem ev_rep {E : Env} {g : Gh} {oT : Nat → Option Nat} {st : St} {a : Act} {w : World} (h : RS E g oT st a w) {o : Operand} {x : XV} (ho : opnd o = some x) :
    RepA g.ρ g.I w g.fs (ev st x) (a.eval o) := by
  cases o with
  | tmp t => cases ho; exact (h.tm t).strip
  | const v =>
    simp only [opnd, Option.map_eq_some_iff] at ho
    obtain ⟨d, hd, rfl⟩ := ho
    exact .d (ofC_rep hd _ _ _)
  | func f => cases ho; exact .fn rfl (by simp)
  | global gl => cases ho

theorem ev_loc {E : Env} {g : Gh} {oT : Nat → Option Nat} {st : St} {a : Act} {w : World} (h : RS E g oT st a w) (x : XV) {s : Nat} (hs : HasLoc (ev st x) s) : frGet st.bx s ≠ none := by
  cases x with
  | t n => exact h.clT n s hs.strip
  | c v => cases hs
  | f f => cases hs with | fn hc _ => cases hc

theorem ev_ne (st : St) (x : XV) (sz : Nat) (xs : List DV) : ev st x ≠ .os sz xs := by
  cases x with
  | t n => exact strip_ne _ _ _
  | c v => simp [ev]
  | f f => simp [ev]

theorem owned_some {st : St} {x : XV} {t sz : Nat} {xs : List DV} (h : owned st x = some (t, sz, xs)) : x = .t t ∧ getT st.tm t = .os sz xs := by
  cases x with
  | t n =>
    simp only [owned] at h
    split at h
    · rename_i e; cases h; exact ⟨rfl, e⟩
    · cases h
  | c v => simp [owned] at h
  | f f => simp [owned] at h

theorem opnd_t {o : Operand} {t : Nat} (h : opnd o = some (.t t)) : o = .tmp t := by
  cases o with
  | tmp n => cases h; rfl
  | const v => simp [opnd] at h
  | func f => cases h
  | global g => cases h

/-- A slot gives its slice's tail away; the tail is nobody's now. -/
theorem RS.lose {E : Env} {g : Gh} {oT : Nat → Option Nat} {st : St} {a : Act} {w : World} (h : RS E g oT st a w) (t : Nat) : RS E g (fun n => if n = t then none else oT n) (st.lose t) a w := by
  refine ⟨h.m, ?_, ?_, ?_, ?_, h.cp, ?_, h.clB, h.clC⟩
  · intro n
    simp only [St.lose, getT_setT]
    split
    · rename_i e; subst e; exact (h.tm t).strip
    · exact h.tm n
  · intro n sz xs hn
    simp only [St.lose, getT_setT] at hn
    split at hn
    · exact absurd hn (strip_ne _ _ _)
    · rename_i e; rw [if_neg (fun e' => e e'.symm)]; exact h.ot n sz xs hn
  · intro n b hb; split at hb
    · cases hb
    · exact h.on n b hb
  · intro n m b hn hm
    split at hn
    · cases hn
    · split at hm
      · cases hm
      · exact h.oi n m b hn hm
  · intro n s hs
    simp only [St.lose, getT_setT] at hs
    split at hs
    · exact h.clT t s hs.strip
    · exact h.clT n s hs

theorem RS.addCp {E : Env} {g : Gh} {oT : Nat → Option Nat} {st : St} {a : Act} {w : World} (h : RS E g oT st a w) (d : Option Nat) (l : OL) (hc : ∀ t, d = some t → CpOk g st.hp a w (a.tmps.getD t undef) l)
    (hl : ∀ r off, l = .c r off → ∀ s ∈ r.locs, frGet st.bx s ≠ none) : RS E g oT (st.copied d l) a w := by
  cases d with
  | none => exact h
  | some t =>
    refine ⟨h.m, h.tm, h.ot, h.on, h.oi, ?_, h.clT, h.clB, fun n r off hn => (mem_inCp hn).elim (fun e => by cases e; exact hl r off rfl) (h.clC n r off)⟩
    intro n l' hn
    rcases mem_inCp hn with e | e
    · cases e; exact hc t rfl
    · exact h.cp n l' e

end Go.Px

/- What one operation does: those that only reckon. -/
namespace Go.Px

section
variable {E : Env} {g : Gh} {oT : Nat → Option Nat} {st st' : St} {a : Act} {w : World} {o : Oper} {gd : Option (Nat × Bool)}

theorem RepA.d_inv {ρ : List Nat} {I : Nat → Nat → Prop} {w : World} {fs : List (List (Nat × Nat))} {v : DV} {x : Value} (h : RepA ρ I w fs (.d v) x) : RepD ρ I w v x := by
  cases h; assumption

theorem snd_move (h : RS E g oT st a w) (hd : ∀ t, o.dst = some t → t < a.tmps.size) {x : Operand} {xv : XV} (hx : opnd x = some xv) (hop : o.op = .move x)
    (hF : opF ⟨o.dst, .mv xv, gd⟩ st = some st') : Res E (execOp a.eval o) g oT st.hp a w o.dst st' := by
  have hrun : (execOp a.eval o).run E.P w = .ok (.value (a.eval x)) w := by simp [execOp, hop]
  simp only [opF] at hF
  cases ho : owned st xv with
  | none =>
    simp only [ho, Option.some.injEq] at hF; subst hF
    exact .pure h _ _ _ hd hrun (ev_rep h hx) (fun s => ev_loc h xv) (ev_ne st xv)
  | some p =>
    obtain ⟨t, sz, xs⟩ := p
    obtain ⟨rfl, hg⟩ := owned_some ho
    have hxt := opnd_t hx; subst hxt
    simp only [ho] at hF
    split at hF
    · cases hF
    · rename_i hne
      simp only [Option.some.injEq] at hF; subst hF
      have hr := h.tm t
      rw [hg] at hr
      have hr' : RepD g.ρ g.I w (.sl sz xs) (a.eval (.tmp t)) := by cases hr; assumption
      refine ⟨_, w, g, _, .inl hrun, (h.put o.dst (.d (.sl sz xs)) _ none hd (.d hr') (fun s hs => absurd hs not_hasLoc_d) (by simp) (by simp)).addCp _ _ ?_ (by simp), ?_⟩
      · intro n hn
        show (a.put o.dst _).tmps.getD t undef = _
        rw [Act.put_get a _ _ hd, if_neg hne, Act.put_get a _ _ hd, if_pos hn]; rfl
      · have e : ((st.put o.dst (.d (.sl sz xs))).copied o.dst (.t t)).hp = st.hp := by cases o.dst <;> rfl
        rw [e]
        refine Stp.same (fun b hb => ?_) rfl
        rcases mine_put hb with h | h
        · exact .inl h
        · cases h

theorem snd_pick (h : RS E g oT st a w) (hd : ∀ t, o.dst = some t → t < a.tmps.size) {c x y : Operand} {cv xv yv : XV} (hc : opnd c = some cv) (hx : opnd x = some xv) (hy : opnd y = some yv)
    (hop : o.op = .pick c x y) (hF : opF ⟨o.dst, .pick cv xv yv, gd⟩ st = some st') : Res E (execOp a.eval o) g oT st.hp a w o.dst st' := by
  have hcr := ev_rep h hc
  simp only [opF] at hF
  split at hF
  · rename_i t ht
    rw [ht] at hcr
    cases hcr with | d hcr =>
    generalize hce : a.eval c = cx at hcr
    cases hcr
    simp only [Option.some.injEq] at hF; subst hF
    cases t with
    | true => exact .pure h _ _ (a.eval x) hd (by simp [execOp, hop, hce, asBool]) (ev_rep h hx) (fun s => ev_loc h xv) (ev_ne st xv)
    | false => exact .pure h _ _ (a.eval y) hd (by simp [execOp, hop, hce, asBool]) (ev_rep h hy) (fun s => ev_loc h yv) (ev_ne st yv)
  · cases hF

theorem snd_nilc (h : RS E g oT st a w) (hd : ∀ t, o.dst = some t → t < a.tmps.size) {x : Operand} {xv : XV} (hx : opnd x = some xv) (hop : o.op = .nilCheck x)
    (hF : opF ⟨o.dst, .nilc xv, gd⟩ st = some st') : Res E (execOp a.eval o) g oT st.hp a w o.dst st' := by
  have hr := ev_rep h hx
  have hl : ∀ s, HasLoc (ev st xv) s → frGet st.bx s ≠ none := fun s => ev_loc h xv
  simp only [opF] at hF
  generalize hxe : a.eval x = ax at hr
  split at hF <;> rename_i e
  all_goals first | (exfalso; simp at hF; done) | (rw [e] at hr hl; simp only [Option.some.injEq] at hF; subst hF)
  · cases hr with | bp _ hb => exact .pure h _ _ _ hd (by simp [execOp, hop, hxe]) (.bp _ hb) hl (by simp)
  · cases hr with | d hr => cases hr with | op _ hb => exact .pure h _ _ _ hd (by simp [execOp, hop, hxe]) (.d (.op _ hb)) hl (by simp)
  · cases hr with | d hr =>
    have hr2 := hr
    cases hr with | ep _ vs y hy hs ho hm hh => exact .pure h _ _ _ hd (by simp [execOp, hop, hxe]) (.d hr2) hl (by simp)
  · cases hr with | fn hl' hh => exact .pure h _ _ _ hd (by simp [execOp, hop, hxe]) (.fn hl' hh) hl (by simp)
  · cases hr with | d hr => cases hr with | fd hl' hh => exact .pure h _ _ _ hd (by simp [execOp, hop, hxe]) (.d (.fd hl' hh)) hl (by simp)

def DV.val : DV → Value
  | .b x => .bool x
  | .i k n => .int k n
  | .s x => .string x
  | _ => undef

theorem ba_eq (x y : ByteArray) : (x.toList == y.toList) = decide (x = y) := by
  rw [Bool.eq_iff_iff, ByteArray.toList_eq, ByteArray.toList_eq]
  simp only [beq_iff_eq, decide_eq_true_eq]
  constructor
  · intro h
    cases x; cases y
    simp only at h
    rw [Array.toList_inj.1 h]
  · rintro rfl; rfl

theorem ba_eq' (x y : ByteArray) : (x.data.toList == y.data.toList) = decide (x = y) := by
  rw [← ba_eq, ByteArray.toList_eq, ByteArray.toList_eq]

theorem bin_run (P : Program) (op : BinOp) (t : TypeId) (x y : Operand) {u v : AV} {p q : Value} {r : DV} {ρ : List Nat} {I : Nat → Nat → Prop} {fs : List (List (Nat × Nat))}
    (hu : RepA ρ I w fs u p) (hv : RepA ρ I w fs v q) (hb : binV op u v = some r) :
    (do eqGuard op t x y p q; binOp op t p q : Sem Value).run P w = .ok r.val w ∧ RepD ρ I w r r.val := by
  unfold binV at hb
  split at hb
  · rename_i k n j m
    have hu := hu.d_inv
    have hv := hv.d_inv
    cases hu
    cases hv
    split at hb
    · rename_i hk
      have hg : (eqGuard op t x y (.int k n) (.int j m)).run P w = .ok () w := by
        unfold eqGuard; cases op <;> simp
      cases op <;> simp only [reduceCtorEq, false_or, true_or, or_true] at hk <;> (try subst hk) <;> simp only [binI] at hb
      all_goals first
        | (split at hb
           · cases hb
           · rename_i hz
             simp only [Option.some.injEq] at hb; subst hb
             exact ⟨by simp [hg, binOp, Op.intDiv, Op.shift, hz, DV.val], .i _ _⟩)
        | (simp only [Option.some.injEq] at hb; subst hb
           refine ⟨?_, by first | exact .i _ _ | exact .b _⟩
           simp [hg, binOp, Op.intArith, Op.intCmp, Op.intBits, bitI, DV.val]
           try rfl)
    · cases hb
  · rename_i s1 s2
    have hu := hu.d_inv
    have hv := hv.d_inv
    cases hu
    cases hv
    have hg : (eqGuard op t x y (.string s1) (.string s2)).run P w = .ok () w := by
      unfold eqGuard; cases op <;> simp
    have hm : IntKind.i64.max = 9223372036854775807 := by decide
    cases op <;> simp only [binS] at hb <;> (try (cases hb; done))
    all_goals first
      | (split at hb
         · rename_i hz
           simp only [Option.some.injEq] at hb; subst hb
           refine ⟨?_, .s _⟩
           simp only [Sem.run_bind, hg, Result.andThen_ok, binOp, Op.stringOp, hm]
           rw [if_neg (by omega)]; rfl
         · cases hb)
      | (simp only [Option.some.injEq] at hb; subst hb
         refine ⟨?_, .b _⟩
         simp only [Sem.run_bind, hg, Result.andThen_ok, binOp, Op.stringOp, ByteArray.toList_eq, ba_eq', Sem.run_pure, DV.val])
  · cases hb

/-! ### Types -/

theorem run_und {P : Program} {t : TypeId} {d : TypeDesc} (h : P.underlying t = some d) (w : World) : (underlying t).run P w = .ok d w := by
  simp [underlying, program, Sem.run, h]

theorem run_sz {P : Program} {t : TypeId} {n : Nat} (h : szP P t = some n) (w : World) : (sizeOf t).run P w = .ok n w := by
  simp only [szP, Option.map_eq_some_iff] at h
  obtain ⟨i, hi, rfl⟩ := h
  simp [sizeOf, typeInfo, program, Sem.run, hi]

theorem run_agg {P : Program} {t : TypeId} {b : Bool} (h : aggP P t = some b) (w : World) : (isAgg t).run P w = .ok b w := by
  simp only [aggP, Option.map_eq_some_iff] at h
  obtain ⟨d, hd, rfl⟩ := h
  unfold isAgg
  simp only [Sem.run_bind, run_und hd, Result.andThen_ok]
  cases d <;> rfl

theorem run_zero {P : Program} {t : TypeId} {z : DV} (h : zeroP P t = some z) (w : World) : ∃ v, (zeroValue t).run P w = .ok v w ∧ ofC v = some z := by
  simp only [zeroP, Option.bind_eq_some_iff] at h
  obtain ⟨i, hi, v, hv, hz⟩ := h
  exact ⟨v, by simp [zeroValue, typeInfo, program, Sem.run, hi, hv], hz⟩

theorem snd_bin (h : RS E g oT st a w) (hd : ∀ t, o.dst = some t → t < a.tmps.size) {op : BinOp} {t ty : TypeId} {x y : Operand} {xv yv : XV} (hx : opnd x = some xv) (hy : opnd y = some yv)
    (hop : o.op = .binOp op t x y ty) (hF : opF ⟨o.dst, .bin op xv yv, gd⟩ st = some st') : Res E (execOp a.eval o) g oT st.hp a w o.dst st' := by
  simp only [opF, Option.map_eq_some_iff] at hF
  obtain ⟨r, hr, rfl⟩ := hF
  obtain ⟨h1, h2⟩ := bin_run (w := w) E.P op t x y (ev_rep h hx) (ev_rep h hy) hr
  refine .pure h _ _ r.val hd ?_ (.d h2) (fun s hs => absurd hs not_hasLoc_d) (by simp)
  simp only [execOp, hop, Sem.run_bind] at h1 ⊢
  rw [h1]; rfl

theorem un_run (P : Program) (op : UnOp) {u : AV} {p : Value} {r : DV} {ρ : List Nat} {I : Nat → Nat → Prop} {fs : List (List (Nat × Nat))}
    (hu : RepA ρ I w fs u p) (hb : unV op u = some r) : (Op.unary op p).run P w = .ok r.val w ∧ RepD ρ I w r r.val := by
  unfold unV at hb
  split at hb
  · have hu := hu.d_inv; cases hu
    split at hb
    · simp only [Option.some.injEq] at hb; subst hb; exact ⟨by simp [Op.unary, DV.val], .b _⟩
    · cases hb
  · have hu := hu.d_inv; cases hu
    split at hb
    · simp only [Option.some.injEq] at hb; subst hb; exact ⟨by simp [Op.unary, Op.intArith, DV.val], .i _ _⟩
    · simp only [Option.some.injEq] at hb; subst hb; exact ⟨by simp [Op.unary, Op.intBits, bitI, DV.val], .i _ _⟩
    · cases hb
  · cases hb

theorem snd_un (h : RS E g oT st a w) (hd : ∀ t, o.dst = some t → t < a.tmps.size) {op : UnOp} {t : TypeId} {x : Operand} {xv : XV} (hx : opnd x = some xv)
    (hop : o.op = .unOp op t x) (hF : opF ⟨o.dst, .un op xv, gd⟩ st = some st') : Res E (execOp a.eval o) g oT st.hp a w o.dst st' := by
  simp only [opF, Option.map_eq_some_iff] at hF
  obtain ⟨r, hr, rfl⟩ := hF
  obtain ⟨h1, h2⟩ := un_run (w := w) E.P op (ev_rep h hx) hr
  refine .pure h _ _ r.val hd ?_ (.d h2) (fun s hs => absurd hs not_hasLoc_d) (by simp)
  simp only [execOp, hop, Sem.run_bind, h1, Result.andThen_ok]; rfl

theorem allSome_spec {α β : Type} {f : α → Option β} : ∀ {l : List α} {r : List β}, allSome f l = some r → r.length = l.length ∧ (∀ (j : Nat) a b, l[j]? = some a → r[j]? = some b → f a = some b) := by
  intro l
  induction l with
  | nil => intro r h; simp only [allSome, Option.some.injEq] at h; subst h; simp
  | cons a l ih =>
    intro r h
    simp only [allSome] at h
    split at h
    · rename_i b bs hb hbs
      simp only [Option.some.injEq] at h; subst h
      obtain ⟨h1, h2⟩ := ih hbs
      refine ⟨by simp [h1], ?_⟩
      intro j x y hx hy
      cases j with
      | zero => simp at hx hy; subst hx; subst hy; exact hb
      | succ j => simp at hx hy; exact h2 j x y hx hy
    · cases h

theorem snd_mkf (h : RS E g oT st a w) (hd : ∀ t, o.dst = some t → t < a.tmps.size) {f : FuncId} {fst cs : Array Operand} {cv : List XV} (hc : allSome opnd cs.toList = some cv) (hf : fst.size = 0)
    (hop : o.op = .makeFunc (.func f) fst cs) (hF : opF ⟨o.dst, .mkf f cv, gd⟩ st = some st') : Res E (execOp a.eval o) g oT st.hp a w o.dst st' := by
  simp only [opF, Option.some.injEq] at hF
  subst hF
  obtain ⟨h1, h2⟩ := allSome_spec hc
  have hfst : fst = #[] := Array.eq_empty_of_size_eq_zero hf
  refine .pure h _ _ (.func (.func f) #[] (cs.map a.eval)) hd (by simp [execOp, hop, Instr.makeFunc, hfst]) ?_ ?_ (by simp)
  · refine .fn (by simpa using h1.symm) ?_
    intro j c v hc hv
    simp only [List.getElem?_map, Option.map_eq_some_iff, Array.getElem?_map] at hc hv
    obtain ⟨x, hx, rfl⟩ := hc
    obtain ⟨y, hy, rfl⟩ := hv
    exact ev_rep h (h2 j y x (by simpa using hy) hx)
  · intro s hs
    cases hs with | fn hm hs =>
    obtain ⟨x, hx, rfl⟩ := List.mem_map.1 hm
    exact ev_loc h x hs

theorem snd_fad (h : RS E g oT st a w) (hd : ∀ t, o.dst = some t → t < a.tmps.size) {t : TypeId} {x : Operand} {f : Nat} {fd : Field} {xv : XV} (hx : opnd x = some xv)
    (hf : fieldP E.P t f = some fd) (hz : (szP E.P fd.type).getD 0 ≠ 0)
    (hop : o.op = .fieldAddr t x f) (hF : opF ⟨o.dst, .fad fd.offset xv, gd⟩ st = some st') : Res E (execOp a.eval o) g oT st.hp a w o.dst st' := by
  have hr := ev_rep h hx
  have hl : ∀ s, HasLoc (ev st xv) s → frGet st.bx s ≠ none := fun s => ev_loc h xv
  have hrun : ∀ b off, a.eval x = .pointer (some ⟨b, off, none⟩) → (execOp a.eval o).run E.P w = .ok (.value (.pointer (some ⟨b, off + fd.offset, none⟩))) w := by
    intro b off hax
    unfold fieldP at hf
    split at hf
    · rename_i fs hu
      cases hs : szP E.P fd.type with
      | none => simp [hs] at hz
      | some n =>
        have hn : n ≠ 0 := by simpa [hs] using hz
        simp only [execOp, hop, Instr.fieldAt, Sem.run_bind, run_und hu, Result.andThen_ok, hf, hax, Instr.sureAddr, Sem.run_pure, fieldPlace, run_sz hs, hn, if_false]
        simp only [Addr.add]
        by_cases h0 : fd.offset = 0 <;> simp [h0]
    · cases hf
  simp only [opF] at hF
  generalize hxe : a.eval x = ax at hr
  split at hF <;> rename_i e
  all_goals first | (exfalso; simp at hF; done) | (rw [e] at hr hl; simp only [Option.some.injEq] at hF; subst hF)
  · cases hr with | bp _ hb => exact .pure h _ _ _ hd (hrun _ _ hxe) (.bp _ hb) (fun s hs => hl s (by cases hs with | bp _ hh => exact .bp _ hh)) (by simp)
  · cases hr with | d hr => cases hr with | op _ hb => exact .pure h _ _ _ hd (hrun _ _ hxe) (.d (.op _ hb)) (fun s hs => absurd hs not_hasLoc_d) (by simp)
  · cases hr with | d hr =>
    cases hr with | ep _ vs y hy hs ho hm hh =>
    have := hrun _ _ hxe
    rw [Nat.add_assoc] at this
    exact .pure h _ _ _ hd this (.d (.ep _ vs y hy hs ho hm hh)) (fun s hs => absurd hs not_hasLoc_d) (by simp)

theorem snd_ext (h : RS E g oT st a w) (hd : ∀ t, o.dst = some t → t < a.tmps.size) {x : Operand} {i : Nat} {xv : XV} (hx : opnd x = some xv)
    (hop : o.op = .extract x i) (hF : opF ⟨o.dst, .ext xv i, gd⟩ st = some st') : Res E (execOp a.eval o) g oT st.hp a w o.dst st' := by
  have hr := ev_rep h hx
  have hl : ∀ s, HasLoc (ev st xv) s → frGet st.bx s ≠ none := fun s => ev_loc h xv
  simp only [opF] at hF
  generalize hxe : a.eval x = ax at hr
  split at hF
  · rename_i vs e
    rw [e] at hr hl
    simp only [Option.map_eq_some_iff, cellAt_eq] at hF
    obtain ⟨v, hv, rfl⟩ := hF
    cases hr with | tup hlen hh =>
    rename_i ws
    have hlt := (List.getElem?_eq_some_iff.1 hv).1
    have hw : ws[i]? = some ws[i] := Array.getElem?_eq_getElem (by omega)
    refine .pure h _ _ ws[i] hd ?_ (hh i v _ hv hw).strip (fun s hs => hl s (.tup (List.mem_of_getElem? hv) hs.strip)) (strip_ne v)
    simp [execOp, hop, Instr.extract, hxe, hw]
  · cases hF

theorem partD_rep {ρ : List Nat} {I : Nat → Nat → Prop} {P : Program} {t : TypeId} {ag : Bool} {n off : Nat} {cs : List DV} {vs : Array Value} {r : DV} (ha : aggP P t = some ag) (hn : szP P t = some n)
    (hr : RepD ρ I w (.agg cs) (.agg vs)) (hp : partD ag cs off n = some r) : ∃ v, (part t vs off).run P w = .ok v w ∧ RepD ρ I w r v := by
  cases hr with | agg hlen ho hh =>
  unfold partD at hp
  unfold part
  simp only [Sem.run_bind, run_agg ha, Result.andThen_ok]
  cases ag with
  | true =>
    simp only [if_true] at hp ⊢
    split at hp
    · rename_i hle
      simp only [Option.some.injEq] at hp; subst hp
      refine ⟨.agg (vs.extract off (off + n)), by simp [run_sz hn], ?_⟩
      refine .agg (by simp; omega) (fun c hc => ho c (List.mem_of_mem_drop (List.mem_of_mem_take hc))) ?_
      intro j c v hc hv
      have hj : j < n := by
        have := (List.getElem?_eq_some_iff.1 hc).1
        simp at this; omega
      rw [List.getElem?_take_of_lt hj, List.getElem?_drop] at hc
      rw [Array.getElem?_extract] at hv
      split at hv
      · exact hh _ _ _ hc hv
      · cases hv
    · cases hp
  | false =>
    simp only [Bool.false_eq_true, if_false, cellAt_eq] at hp ⊢
    have hlt := (List.getElem?_eq_some_iff.1 hp).1
    have hw : vs[off]? = some vs[off] := Array.getElem?_eq_getElem (by omega)
    exact ⟨vs[off], by rw [hw]; rfl, hh _ _ _ hp hw⟩

theorem snd_fld (h : RS E g oT st a w) (hd : ∀ t, o.dst = some t → t < a.tmps.size) {t : TypeId} {x : Operand} {f n : Nat} {ag : Bool} {fd : Field} {xv : XV} (hx : opnd x = some xv)
    (hf : fieldP E.P t f = some fd) (ha : aggP E.P fd.type = some ag) (hn : szP E.P fd.type = some n)
    (hop : o.op = .field t x f) (hF : opF ⟨o.dst, .fld ag fd.offset n xv, gd⟩ st = some st') : Res E (execOp a.eval o) g oT st.hp a w o.dst st' := by
  have hr := ev_rep h hx
  simp only [opF] at hF
  generalize hxe : a.eval x = ax at hr
  split at hF
  · rename_i cs e
    rw [e] at hr
    simp only [Option.map_eq_some_iff] at hF
    obtain ⟨v, hv, rfl⟩ := hF
    have hr := hr.d_inv
    cases hr with | agg hlen ho hh =>
    obtain ⟨z, hz1, hz2⟩ := partD_rep (w := w) ha hn (.agg hlen ho hh) hv
    refine .pure h _ _ z hd ?_ (.d hz2) (fun s hs => absurd hs not_hasLoc_d) (by simp)
    unfold fieldP at hf
    split at hf
    · rename_i fs hu
      simp only [execOp, hop, Instr.field, Sem.run_bind, run_und hu, Result.andThen_ok, hf, hxe, asAgg, Sem.run_pure, hz1]
    · cases hf
  · cases hF

theorem intOf_some {v : AV} {n : Int} (h : intOf v = some n) : ∃ k, v = .d (.i k n) := by
  unfold intOf at h
  split at h
  · cases h; exact ⟨_, rfl⟩
  · cases h

theorem snd_idx (h : RS E g oT st a w) (hd : ∀ t, o.dst = some t → t < a.tmps.size) {t e : TypeId} {x ix : Operand} {len n : Nat} {ag : Bool} {xv iv : XV} (hx : opnd x = some xv) (hi : opnd ix = some iv)
    (hu : E.P.underlying t = some (.array len e)) (ha : aggP E.P e = some ag) (hn : szP E.P e = some n)
    (hop : o.op = .index t x ix) (hF : opF ⟨o.dst, .idx ag len n xv iv, gd⟩ st = some st') : Res E (execOp a.eval o) g oT st.hp a w o.dst st' := by
  have hr := ev_rep h hx
  have hri := ev_rep h hi
  simp only [opF] at hF
  generalize hxe : a.eval x = ax at hr
  generalize hie : a.eval ix = ai at hri
  split at hF
  · rename_i cs i e1 e2
    obtain ⟨k, e2⟩ := intOf_some e2
    rw [e1] at hr; rw [e2] at hri
    have hri := hri.d_inv
    cases hri
    split at hF
    · rename_i hlt
      simp only [Option.map_eq_some_iff] at hF
      obtain ⟨v, hv, rfl⟩ := hF
      have hr := hr.d_inv
      cases hr with | agg hlen ho hh =>
      obtain ⟨z, hz1, hz2⟩ := partD_rep (w := w) ha hn (.agg hlen ho hh) hv
      refine .pure h _ _ z hd ?_ (.d hz2) (fun s hs => absurd hs not_hasLoc_d) (by simp)
      simp only [execOp, hop, Instr.index, Sem.run_bind, run_und hu, Result.andThen_ok, hxe, hie, asIntOf, Sem.run_pure, hlt, and_self, if_true, run_sz hn, hz1]
    · cases hF
  · cases hF

theorem snd_idxs (h : RS E g oT st a w) (hd : ∀ t, o.dst = some t → t < a.tmps.size) {t : TypeId} {x ix : Operand} {xv iv : XV} (hx : opnd x = some xv) (hi : opnd ix = some iv)
    (hu : E.P.underlying t = some .string)
    (hop : o.op = .index t x ix) (hF : opF ⟨o.dst, .idxs xv iv, gd⟩ st = some st') : Res E (execOp a.eval o) g oT st.hp a w o.dst st' := by
  have hr := ev_rep h hx
  have hri := ev_rep h hi
  simp only [opF] at hF
  generalize hxe : a.eval x = ax at hr
  generalize hie : a.eval ix = ai at hri
  split at hF
  · rename_i s i e1 e2
    obtain ⟨k, e2⟩ := intOf_some e2
    rw [e1] at hr; rw [e2] at hri
    have hri := hri.d_inv
    have hr := hr.d_inv
    cases hri
    cases hr
    split at hF
    · rename_i hlt
      simp only [Option.some.injEq] at hF; subst hF
      refine .pure h _ _ _ hd ?_ (.d (.i _ _)) (fun s hs => absurd hs not_hasLoc_d) (by simp)
      have hl2 : i.toNat < s.size := by omega
      have hg : s[i.toNat]? = some (s.data.getD i.toNat 0) := by
        rw [show s[i.toNat]? = some s[i.toNat] from getElem?_pos s i.toNat hl2]
        congr 1
        simp only [Array.getD]
        rw [dif_pos (show i.toNat < s.data.size from hl2)]; rfl
      simp only [execOp, hop, Instr.index, Sem.run_bind, run_und hu, Result.andThen_ok, hxe, hie, asIntOf, Sem.run_pure, hlt, if_true, hg]
    · cases hF
  · cases hF

end
end Go.Px

/- What one operation does: indexes, slices, lengths, numbers. -/
namespace Go.Px
theorem foldI_run (P : Program) (f : Int → Int → Int) (m2 : Value → Value → Sem Value) (hm : ∀ k x j y w, (m2 (.int k x) (.int j y)).run P w = .ok (.int k (f x y)) w)
    {ρ : List Nat} {I : Nat → Nat → Prop} {fs : List (List (Nat × Nat))} (w : World) (k : IntKind) : ∀ (l : List AV) (vs : List Value) (x : Int) (r : DV), vs.length = l.length →
      (∀ (j : Nat) c v, l[j]? = some c → vs[j]? = some v → RepA ρ I w fs c v) → foldI f k x l = some r → (vs.foldlM m2 (.int k x)).run P w = .ok r.val w ∧ RepD ρ I w r r.val := by
  intro l
  induction l with
  | nil =>
    intro vs x r hlen _ hF
    have : vs = [] := List.length_eq_zero_iff.1 hlen
    subst this
    simp only [foldI, Option.some.injEq] at hF; subst hF
    exact ⟨rfl, .i _ _⟩
  | cons c l ih =>
    intro vs x r hlen hrep hF
    cases vs with
    | nil => simp at hlen
    | cons v vs =>
      cases c <;> (try (simp [foldI] at hF; done))
      rename_i dv
      cases dv <;> (try (simp [foldI] at hF; done))
      rename_i j y
      simp only [foldI] at hF
      have hv := (hrep 0 (.d (.i _ _)) v rfl rfl).d_inv
      cases hv
      obtain ⟨h1, h2⟩ := ih vs (f x y) r (by simpa using hlen) (fun j c v hc hv => hrep (j + 1) c v (by simpa using hc) (by simpa using hv)) hF
      exact ⟨by simp only [List.foldlM_cons, Sem.run_bind, hm, Result.andThen_ok]; exact h1, h2⟩

section
variable {E : Env} {g : Gh} {oT : Nat → Option Nat} {st st' : St} {a : Act} {w : World} {o : Oper} {gd : Option (Nat × Bool)}

theorem addr_add (b off n : Nat) : (Addr.mk b off none).add n = ⟨b, off + n, none⟩ := by
  simp only [Addr.add]; by_cases h : n = 0 <;> simp [h]

theorem snd_iadA (h : RS E g oT st a w) (hd : ∀ t, o.dst = some t → t < a.tmps.size) {t e : TypeId} {x ix : Operand} {len n : Nat} {xv iv : XV} (hx : opnd x = some xv) (hi : opnd ix = some iv)
    (hu : E.P.underlying t = some (.array len e)) (hn : szP E.P e = some n)
    (hop : o.op = .indexAddr t x ix) (hF : opF ⟨o.dst, .iad (some len) n xv iv, gd⟩ st = some st') : Res E (execOp a.eval o) g oT st.hp a w o.dst st' := by
  have hr := ev_rep h hx
  have hri := ev_rep h hi
  have hl : ∀ s, HasLoc (ev st xv) s → frGet st.bx s ≠ none := fun s => ev_loc h xv
  simp only [opF] at hF
  generalize hxe : a.eval x = ax at hr
  generalize hie : a.eval ix = ai at hri
  split at hF
  · cases hF
  · rename_i i e2
    obtain ⟨k, e2⟩ := intOf_some e2
    rw [e2] at hri
    have hri := hri.d_inv
    cases hri
    split at hF
    · rename_i hlt
      have hrun : ∀ b off, a.eval x = .pointer (some ⟨b, off, none⟩) → (execOp a.eval o).run E.P w = .ok (.value (.pointer (some ⟨b, off + i.toNat * n, none⟩))) w := by
        intro b off hax
        simp only [execOp, hop, Instr.indexAt, Sem.run_bind, run_und hu, Result.andThen_ok, hax, hie, asIntOf, Sem.run_pure, Instr.sureAddr, hlt, and_self, if_true, run_sz hn, addr_add]
      split at hF <;> rename_i e
      all_goals first | (exfalso; simp at hF; done) | (rw [e] at hr hl; simp only [Option.some.injEq] at hF; subst hF)
      · cases hr with | bp _ hb => exact .pure h _ _ _ hd (hrun _ _ hxe) (.bp _ hb) (fun s hs => hl s (by cases hs with | bp _ hh => exact .bp _ hh)) (by simp)
      · cases hr with | d hr => cases hr with | op _ hb => exact .pure h _ _ _ hd (hrun _ _ hxe) (.d (.op _ hb)) (fun s hs => absurd hs not_hasLoc_d) (by simp)
      · cases hr with | d hr =>
        cases hr with | ep _ vs y hy hs ho hm hh =>
        have := hrun _ _ hxe
        rw [Nat.add_assoc] at this
        exact .pure h _ _ _ hd this (.d (.ep _ vs y hy hs ho hm hh)) (fun s hs => absurd hs not_hasLoc_d) (by simp)
    · cases hF

theorem snd_iadS (h : RS E g oT st a w) (hd : ∀ t, o.dst = some t → t < a.tmps.size) {t e : TypeId} {x ix : Operand} {n : Nat} {xv iv : XV} (hx : opnd x = some xv) (hi : opnd ix = some iv)
    (hu : E.P.underlying t = some (.slice e)) (hn : szP E.P e = some n)
    (hop : o.op = .indexAddr t x ix) (hF : opF ⟨o.dst, .iad none n xv iv, gd⟩ st = some st') : Res E (execOp a.eval o) g oT st.hp a w o.dst st' := by
  have hr := ev_rep h hx
  have hri := ev_rep h hi
  simp only [opF] at hF
  generalize hxe : a.eval x = ax at hr
  generalize hie : a.eval ix = ai at hri
  split at hF
  · cases hF
  · rename_i i e2
    obtain ⟨k, e2⟩ := intOf_some e2
    rw [e2] at hri
    have hri := hri.d_inv
    cases hri
    split at hF
    · rename_i sz xs e1
      rw [e1] at hr
      have hr := hr.d_inv
      split at hF
      · rename_i hlt
        obtain ⟨rfl, h0, h1⟩ := hlt
        simp only [Option.some.injEq] at hF; subst hF
        cases hr with | sl vs hc hs hm hh =>
        rename_i b off cap
        have hi' : i.toNat < xs.length := by omega
        refine .pure h _ _ (.pointer (some ⟨b, off + i.toNat * sz + 0, none⟩)) hd ?_ (.d (.ep 0 (fun q => vs (i.toNat * sz + q)) xs[i.toNat] (List.getElem?_eq_getElem hi') (hs _ (List.getElem_mem hi')).1 (hs _ (List.getElem_mem hi')).2 ?_ ?_)) (fun s hs => absurd hs not_hasLoc_d) (by simp)
        · simp only [execOp, hop, Instr.indexAt, Sem.run_bind, run_und hu, Result.andThen_ok, hxe, hie, asIntOf, Sem.run_pure, h0, h1, and_self, if_true, run_sz hn, addr_add, Nat.add_zero]
        · intro q hq
          have : i.toNat * sz + q < xs.length * sz := by
            have : (i.toNat + 1) * sz ≤ xs.length * sz := Nat.mul_le_mul_right _ hi'
            rw [Nat.add_mul, Nat.one_mul] at this; omega
          have := hm _ this
          rw [← Nat.add_assoc] at this
          exact this
        · intro q c hc
          exact hh i.toNat _ q c (List.getElem?_eq_getElem hi') hc
      · cases hF
    · cases hF

theorem snd_max (h : RS E g oT st a w) (hd : ∀ t, o.dst = some t → t < a.tmps.size) {args : Array Operand} {ts : Array TypeId} {av : List XV} (hx : allSome opnd args.toList = some av)
    (hop : o.op = .call { callee := .builtin .max, args, argTypes := ts }) (hF : opF ⟨o.dst, .mx av, gd⟩ st = some st') : Res E (execOp a.eval o) g oT st.hp a w o.dst st' := by
  obtain ⟨h1, h2⟩ := allSome_spec hx
  simp only [opF, Option.map_eq_some_iff] at hF
  obtain ⟨r, hr, rfl⟩ := hF
  have hrep : ∀ (j : Nat) c v, (av.map (ev st))[j]? = some c → (args.toList.map a.eval)[j]? = some v → RepA g.ρ g.I w g.fs c v := by
    intro j c v hc hv
    simp only [List.getElem?_map, Option.map_eq_some_iff] at hc hv
    obtain ⟨x, hx, rfl⟩ := hc
    obtain ⟨y, hy, rfl⟩ := hv
    exact ev_rep h (h2 j y x hy hx)
  generalize hvs : args.toList.map a.eval = vs at hrep
  have hlen : vs.length = (av.map (ev st)).length := by rw [← hvs]; simp [h1]
  generalize av.map (ev st) = l at hr hrep hlen
  unfold mxI at hr
  split at hr
  · rename_i k x l'
    cases vs with
    | nil => simp at hlen
    | cons v vs =>
      have hv := (hrep 0 (.d (.i _ _)) v rfl rfl).d_inv
      cases hv
      obtain ⟨q1, q2⟩ := foldI_run E.P (fun a b => if b > a then b else a) Builtin.max2 (by intro k x j y w; simp [Builtin.max2]) w k l' vs x r (by simpa using hlen)
        (fun j c v hc hv => hrep (j + 1) c v (by simpa using hc) (by simpa using hv)) hr
      refine .pure h _ _ r.val hd ?_ (.d q2) (fun s hs => absurd hs not_hasLoc_d) (by simp)
      simp only [execOp, hop, resolve, Sem.run_bind, Sem.run_pure, Result.andThen_ok, invoke, builtin, Builtin.max_, Array.toList_map, hvs, q1]
  · cases hr

theorem snd_min (h : RS E g oT st a w) (hd : ∀ t, o.dst = some t → t < a.tmps.size) {args : Array Operand} {ts : Array TypeId} {av : List XV} (hx : allSome opnd args.toList = some av)
    (hop : o.op = .call { callee := .builtin .min, args, argTypes := ts }) (hF : opF ⟨o.dst, .mn av, gd⟩ st = some st') : Res E (execOp a.eval o) g oT st.hp a w o.dst st' := by
  obtain ⟨h1, h2⟩ := allSome_spec hx
  simp only [opF, Option.map_eq_some_iff] at hF
  obtain ⟨r, hr, rfl⟩ := hF
  have hrep : ∀ (j : Nat) c v, (av.map (ev st))[j]? = some c → (args.toList.map a.eval)[j]? = some v → RepA g.ρ g.I w g.fs c v := by
    intro j c v hc hv
    simp only [List.getElem?_map, Option.map_eq_some_iff] at hc hv
    obtain ⟨x, hx, rfl⟩ := hc
    obtain ⟨y, hy, rfl⟩ := hv
    exact ev_rep h (h2 j y x hy hx)
  generalize hvs : args.toList.map a.eval = vs at hrep
  have hlen : vs.length = (av.map (ev st)).length := by rw [← hvs]; simp [h1]
  generalize av.map (ev st) = l at hr hrep hlen
  unfold mnI at hr
  split at hr
  · rename_i k x l'
    cases vs with
    | nil => simp at hlen
    | cons v vs =>
      have hv := (hrep 0 (.d (.i _ _)) v rfl rfl).d_inv
      cases hv
      obtain ⟨q1, q2⟩ := foldI_run E.P (fun a b => if b < a then b else a) Builtin.min2 (by intro k x j y w; simp [Builtin.min2]) w k l' vs x r (by simpa using hlen)
        (fun j c v hc hv => hrep (j + 1) c v (by simpa using hc) (by simpa using hv)) hr
      refine .pure h _ _ r.val hd ?_ (.d q2) (fun s hs => absurd hs not_hasLoc_d) (by simp)
      simp only [execOp, hop, resolve, Sem.run_bind, Sem.run_pure, Result.andThen_ok, invoke, builtin, Builtin.min_, Array.toList_map, hvs, q1]
  · cases hr

/-! ### Parts of slices and strings -/

theorem bound_run (P : Program) {k : IntKind} {n : Int} {y : Nat} (c : BoundsCode) (h0 : 0 ≤ n) (h1 : n ≤ y) : (Instr.sliceBound (.int k n) y c).run P w = .ok n.toNat w := by
  simp [Instr.sliceBound, asIntOf, h0, h1]

theorem optI_rep (h : RS E g oT st a w) {x : Option Operand} {xv : Option XV} (hx : opndO x = some xv) {n : Option Int} (hn : optI st xv = some n) :
    match x, n with
    | none, none => True
    | some x, some n => ∃ k, a.eval x = .int k n
    | _, _ => False := by
  cases x with
  | none =>
    simp only [opndO, Option.some.injEq] at hx; subst hx
    simp only [optI, Option.some.injEq] at hn; subst hn
    trivial
  | some x =>
    simp only [opndO, Option.map_eq_some_iff] at hx
    obtain ⟨y, hy, rfl⟩ := hx
    simp only [optI, Option.map_eq_some_iff] at hn
    obtain ⟨m, hm, rfl⟩ := hn
    obtain ⟨k, e⟩ := intOf_some hm
    have hr := ev_rep h hy
    rw [e] at hr
    have hr := hr.d_inv
    refine ⟨k, ?_⟩
    generalize a.eval x = ax at hr
    cases hr
    rfl

end
end Go.Px

/- What one operation does: parts, lengths, what is built, conversions. -/
namespace Go.Px
section
variable {E : Env} {g : Gh} {oT : Nat → Option Nat} {st st' : St} {a : Act} {w : World} {o : Oper} {gd : Option (Nat × Bool)}

/-- An operand that may be missing is that number. -/
def isN (a : Act) : Option Operand → Option Int → Prop
  | none, none => True
  | some x, some n => ∃ k, a.eval x = .int k n
  | _, _ => False

theorem optI_isN (h : RS E g oT st a w) {x : Option Operand} {xv : Option XV} (hx : opndO x = some xv) {n : Option Int} (hn : optI st xv = some n) : isN a x n := by
  have := optI_rep h hx hn
  cases x <;> cases n <;> exact this

theorem bounds2 (P : Program) (isS : Bool) (len cap : Nat) {lo hi : Option Operand} {l h : Option Int} (hl : isN a lo l) (hh : isN a hi h) (h0 : 0 ≤ l.getD 0) (h1 : l.getD 0 ≤ h.getD len) (h2 : h.getD len ≤ cap) :
    (Instr.sliceBounds isS len cap (lo.map a.eval) (hi.map a.eval) none).run P w = .ok ((l.getD 0).toNat, (h.getD len).toNat, cap) w := by
  rcases lo with _ | x <;> rcases l with _ | l <;> (try exact hl.elim) <;> rcases hi with _ | y <;> rcases h with _ | h <;> (try exact hh.elim)
  · simp [Instr.sliceBounds]
  · obtain ⟨k, e⟩ := hh
    simp only [Option.getD_none, Option.getD_some] at h1 h2
    simp [Instr.sliceBounds, e, bound_run P _ h1 h2]
  · obtain ⟨k, e⟩ := hl
    simp only [Option.getD_none, Option.getD_some] at h0 h1
    simp [Instr.sliceBounds, e, bound_run P _ h0 h1]
  · obtain ⟨k, e⟩ := hl
    obtain ⟨k', e'⟩ := hh
    simp only [Option.getD_some] at h0 h1 h2
    simp [Instr.sliceBounds, e, e', bound_run P _ (show 0 ≤ h by omega) h2, bound_run P _ h0 (show l ≤ (h.toNat : Int) by omega)]

theorem bounds3 (P : Program) (len cap : Nat) {lo : Option Operand} {hi mx : Operand} {l : Option Int} {h m : Int} {k1 k2 : IntKind} (hl : isN a lo l) (hh : a.eval hi = .int k1 h) (hm : a.eval mx = .int k2 m)
    (h0 : 0 ≤ l.getD 0) (h1 : l.getD 0 ≤ h) (h2 : h ≤ m) (h3 : m ≤ cap) :
    (Instr.sliceBounds true len cap (lo.map a.eval) (some (a.eval hi)) (some (a.eval mx))).run P w = .ok ((l.getD 0).toNat, h.toNat, m.toNat) w := by
  rcases lo with _ | x <;> rcases l with _ | l <;> (try exact hl.elim)
  · simp only [Option.getD_none] at h1
    simp [Instr.sliceBounds, hh, hm, bound_run P _ (show 0 ≤ m by omega) h3, bound_run P _ h1 (show h ≤ (m.toNat : Int) by omega)]
  · obtain ⟨k, e⟩ := hl
    simp only [Option.getD_some] at h0 h1
    simp [Instr.sliceBounds, e, hh, hm, bound_run P _ (show 0 ≤ m by omega) h3, bound_run P _ (show 0 ≤ h by omega) (show h ≤ (m.toNat : Int) by omega), bound_run P _ h0 (show l ≤ (h.toNat : Int) by omega)]

theorem sl_part {ρ : List Nat} {I : Nat → Nat → Prop} {sz : Nat} {xs : List DV} {b off cap : Nat} (h : RepD ρ I w (.sl sz xs) (.slice (some ⟨b, off, none⟩) xs.length cap)) {l e c : Nat} (h1 : l ≤ e) (h2 : e ≤ xs.length) (h3 : e ≤ c) (_ : c ≤ cap) :
    RepD ρ I w (.sl sz ((xs.take e).drop l)) (.slice (some (if c = l then ⟨b, off, none⟩ else ⟨b, off + l * sz, none⟩)) (e - l) (c - l)) := by
  cases h with | sl vs hc hs hm hh =>
  have hlen : ((xs.take e).drop l).length = e - l := by simp; omega
  have key : ∀ off', (off' = off + l * sz ∨ e - l = 0) → RepD ρ I w (.sl sz ((xs.take e).drop l)) (.slice (some ⟨b, off', none⟩) (e - l) (c - l)) := by
    intro off' hoff
    rw [← hlen]
    refine .sl (fun k => vs (l * sz + k)) (by rw [hlen]; omega) (fun x hx => hs x (List.mem_of_mem_take (List.mem_of_mem_drop hx))) ?_ ?_
    · intro k hk
      rw [hlen] at hk
      rcases hoff with rfl | h0
      · have : l * sz + k < xs.length * sz := by
          have : (l + (e - l)) * sz ≤ xs.length * sz := Nat.mul_le_mul_right _ (by omega)
          rw [Nat.add_mul] at this; omega
        have := hm _ this
        rwa [← Nat.add_assoc] at this
      · rw [h0] at hk; omega
    · intro j x k c hj hk
      have hj' : xs[l + j]? = some x := by
        rw [List.getElem?_drop] at hj
        rw [List.getElem?_take] at hj
        split at hj
        · exact hj
        · cases hj
      have := hh (l + j) x k c hj' hk
      rw [Nat.add_mul, Nat.add_assoc] at this
      exact this
  split
  · exact key off (.inr (by omega))
  · exact key _ (.inl rfl)

theorem slc_run (P : Program) {t : TypeId} {x : Value} {lo hi mx : Option Value} {d : TypeDesc} (hu : P.underlying t = some d) (hna : ∀ n e, d ≠ .array n e) :
    (Instr.sliceAt t x lo hi mx).run P w = (Instr.slice t x lo hi mx).run P w := by
  unfold Instr.sliceAt
  simp only [Sem.run_bind, run_und hu, Result.andThen_ok]

theorem snd_slc (h : RS E g oT st a w) (hd : ∀ t, o.dst = some t → t < a.tmps.size) {t : TypeId} {x : Operand} {lo hi mx : Option Operand} {xv : XV} {lv hv mv : Option XV} {es : Option Nat} (hx : opnd x = some xv)
    (hlo : opndO lo = some lv) (hhi : opndO hi = some hv) (hmx : opndO mx = some mv)
    (ht : (es = none ∧ E.P.underlying t = some .string) ∨ ∃ e n, es = some n ∧ E.P.underlying t = some (.slice e) ∧ szP E.P e = some n)
    (hop : o.op = .slice t x lo hi mx) (hF : opF ⟨o.dst, .slc es xv lv hv mv, gd⟩ st = some st') : Res E (execOp a.eval o) g oT st.hp a w o.dst st' := by
  have hr := ev_rep h hx
  simp only [opF] at hF
  generalize hxe : a.eval x = ax at hr
  split at hF
  · rename_i l hh m el eh em
    have nl := optI_isN h hlo el
    have nh := optI_isN h hhi eh
    have nm := optI_isN h hmx em
    simp only [Option.map_eq_some_iff] at hF
    obtain ⟨v, hv', rfl⟩ := hF
    unfold sliceX at hv'
    split at hv'
    · rename_i b e
      rw [e] at hr
      have hr := hr.d_inv
      cases hr
      split at hv'
      · rename_i hc
        obtain ⟨rfl, rfl, c0, c1, c2⟩ := hc
        rcases ht with ⟨_, ht⟩ | ⟨_, _, hh, _⟩
        · simp only [Option.some.injEq] at hv'; subst hv'
          rcases mx with _ | mx
          · refine .pure h _ _ _ hd ?_ (.d (.s _)) (fun s hs => absurd hs not_hasLoc_d) (by simp)
            simp only [execOp, hop, Sem.run_bind, slc_run E.P ht (by simp), Instr.slice, run_und ht, Result.andThen_ok, hxe, Option.map_none, Option.isSome_none, Bool.false_eq_true, if_false,
              bounds2 E.P false b.size b.size nl nh c0 c1 c2, Sem.run_pure]
          · exact nm.elim
        · cases hh
      · cases hv'
    · rename_i sz xs e
      rw [e] at hr
      have hr := hr.d_inv
      rcases ht with ⟨rfl, _⟩ | ⟨e', n, rfl, ht, hn⟩
      · split at hv'
        · simp at hv'
        · split at hv' <;> simp at hv'
      · split at hv'
        · split at hv'
          · rename_i hc
            obtain ⟨hsz, c0, c1, c2⟩ := hc
            simp only [Option.some.injEq] at hsz hv'; subst hsz; subst hv'
            rcases mx with _ | mx
            · have hr2 := hr
              cases hr with | sl vs hcap hs hm hhh =>
              rename_i b off cap
              have := sl_part hr2 (l := (l.getD 0).toNat) (e := (hh.getD xs.length).toNat) (c := cap) (by omega) (by omega) (by omega) (Nat.le_refl _)
              refine .pure h _ _ _ hd ?_ (.d this) (fun s hs => absurd hs not_hasLoc_d) (by simp)
              simp only [execOp, hop, Sem.run_bind, slc_run E.P ht (by simp), Instr.slice, run_und ht, Result.andThen_ok, hxe, Option.map_none,
                bounds2 E.P true xs.length cap nl nh c0 c1 (by omega), Sem.run_pure, run_sz hn]
              split <;> simp [addr_add]
            · exact nm.elim
          · cases hv'
        · rename_i m
          split at hv'
          · rename_i h1
            split at hv'
            · rename_i hc
              obtain ⟨hsz, c0, c1, c2, c3⟩ := hc
              simp only [Option.some.injEq] at hsz hv'; subst hsz; subst hv'; subst c2
              rcases mx with _ | mx
              · exact nm.elim
              · rcases hi with _ | hi
                · exact nh.elim
                · obtain ⟨k1, e1⟩ := nh
                  obtain ⟨k2, e2⟩ := nm
                  have hr2 := hr
                  cases hr with | sl vs hcap hs hm hhh =>
                  rename_i b off cap
                  have hp := sl_part hr2 (l := (l.getD 0).toNat) (e := h1.toNat) (c := h1.toNat) (by omega) (by omega) (Nat.le_refl _) (by omega)
                  have hlen : ((xs.take h1.toNat).drop (l.getD 0).toNat).length = h1.toNat - (l.getD 0).toNat := by simp; omega
                  refine ⟨_, w, g, _, .inl ?_, h.put o.dst (.os n _) _ none hd (.os hp) (fun s hs => absurd hs not_hasLoc_os) ?_ (by simp), ?_⟩
                  · simp only [execOp, hop, Sem.run_bind, slc_run E.P ht (by simp), Instr.slice, run_und ht, Result.andThen_ok, hxe, Option.map_some,
                      bounds3 E.P xs.length cap nl e1 e2 c0 c1 (Int.le_refl _) (by omega), Sem.run_pure, run_sz hn]
                    split <;> simp [addr_add]
                  · intro sz' xs' he
                    cases he
                    rw [← hlen]
                    split
                    · exact ⟨b, off, _, rfl, fun hlt => absurd hlt (Nat.lt_irrefl _)⟩
                    · exact ⟨b, _, _, rfl, fun hlt => absurd hlt (Nat.lt_irrefl _)⟩
                  · have e : (st.put o.dst (.os n ((xs.take h1.toNat).drop (l.getD 0).toNat))).hp = st.hp := by cases o.dst <;> rfl
                    rw [e]
                    refine Stp.same (fun b hb => ?_) rfl
                    rcases mine_put hb with h | h
                    · exact .inl h
                    · cases h
            · cases hv'
          · cases hv'
    · rename_i e
      rw [e] at hr
      have hr := hr.d_inv
      cases hr
      split at hv'
      · rename_i hc
        obtain ⟨c0, c1, c2, rfl⟩ := hc
        simp only [Option.some.injEq] at hv'; subst hv'
        rcases ht with ⟨rfl, _⟩ | ⟨e', n, rfl, ht, hn⟩
        · exact absurd rfl c0
        · rcases mx with _ | mx
          · refine .pure h _ _ _ hd ?_ (.d .nsl) (fun s hs => absurd hs not_hasLoc_d) (by simp)
            simp only [execOp, hop, Sem.run_bind, slc_run E.P ht (by simp), Instr.slice, run_und ht, Result.andThen_ok, hxe, Option.map_none,
              bounds2 E.P true 0 0 nl nh (by omega) (by simp; omega) (by simp; omega), Sem.run_pure, run_sz hn]
            simp [c1, c2]
          · exact nm.elim
      · cases hv'
    · cases hv'
  · cases hF

theorem len_run (P : Program) {t : TypeId} {ts : Array TypeId} {ax : Value} (ht : ts[0]? = some t) (n : Nat)
    (hd : ∃ d, P.underlying t = some d ∧ ((d = .string ∧ ∃ s : ByteArray, ax = .string s ∧ n = s.size) ∨ ∃ e b c, d = .slice e ∧ ax = .slice b n c)) (ty : TypeId) :
    (Builtin.len_ ts ty #[ax]).run P w = .ok (.int .i64 n) w := by
  obtain ⟨d, hu, ⟨rfl, s, rfl, rfl⟩ | ⟨e, b, c, rfl, rfl⟩⟩ := hd
  · simp [Builtin.len_, ht, run_und hu, goInt]
  · simp [Builtin.len_, ht, run_und hu, goInt]

theorem snd_len0 (h : RS E g oT st a w) (hd : ∀ t, o.dst = some t → t < a.tmps.size) {t : TypeId} {x : Operand} {ts : Array TypeId} {xv : XV} (hx : opnd x = some xv)
    (ht : ts[0]? = some t) (hu : E.P.underlying t = some .string)
    (hop : o.op = .call { callee := .builtin .len, args := #[x], argTypes := ts }) (hF : opF ⟨o.dst, .len 0 xv, gd⟩ st = some st') : Res E (execOp a.eval o) g oT st.hp a w o.dst st' := by
  have hr := ev_rep h hx
  simp only [opF] at hF
  generalize hxe : a.eval x = ax at hr
  split at hF <;> rename_i e
  · rw [e] at hr
    have hr := hr.d_inv
    cases hr
    simp only [Option.some.injEq] at hF; subst hF
    refine .pure h _ _ _ hd ?_ (.d (.i _ _)) (fun s hs => absurd hs not_hasLoc_d) (by simp)
    simp only [execOp, hop, resolve, Sem.run_bind, Sem.run_pure, Result.andThen_ok, invoke, builtin, List.map_toArray, List.map_cons, List.map_nil, hxe]
    rw [len_run E.P ht _ ⟨_, hu, .inl ⟨rfl, _, rfl, rfl⟩⟩]; rfl
  · cases hF

theorem snd_len1 (h : RS E g oT st a w) (hd : ∀ t, o.dst = some t → t < a.tmps.size) {t e : TypeId} {x : Operand} {ts : Array TypeId} {xv : XV} (hx : opnd x = some xv)
    (ht : ts[0]? = some t) (hu : E.P.underlying t = some (.slice e))
    (hop : o.op = .call { callee := .builtin .len, args := #[x], argTypes := ts }) (hF : opF ⟨o.dst, .len 1 xv, gd⟩ st = some st') : Res E (execOp a.eval o) g oT st.hp a w o.dst st' := by
  have hr := ev_rep h hx
  simp only [opF] at hF
  generalize hxe : a.eval x = ax at hr
  split at hF <;> rename_i e
  · rw [e] at hr
    have hr := hr.d_inv
    cases hr
    simp only [Option.some.injEq] at hF; subst hF
    refine .pure h _ _ _ hd ?_ (.d (.i _ _)) (fun s hs => absurd hs not_hasLoc_d) (by simp)
    simp only [execOp, hop, resolve, Sem.run_bind, Sem.run_pure, Result.andThen_ok, invoke, builtin, List.map_toArray, List.map_cons, List.map_nil, hxe]
    rw [len_run E.P ht _ ⟨_, hu, .inr ⟨_, _, _, rfl, rfl⟩⟩]; rfl
  · rw [e] at hr
    have hr := hr.d_inv
    cases hr
    simp only [Option.some.injEq] at hF; subst hF
    refine .pure h _ _ _ hd ?_ (.d (.i _ _)) (fun s hs => absurd hs not_hasLoc_d) (by simp)
    simp only [execOp, hop, resolve, Sem.run_bind, Sem.run_pure, Result.andThen_ok, invoke, builtin, List.map_toArray, List.map_cons, List.map_nil, hxe]
    rw [len_run E.P ht 0 ⟨_, hu, .inr ⟨_, _, _, rfl, rfl⟩⟩]; rfl
  · cases hF

/-! ### What is built -/

theorem cells_rep {ρ : List Nat} {I : Nat → Nat → Prop} {d : DV} {v : Value} (h : RepD ρ I w d v) : v.cells.size = d.cells.length ∧
    (∀ (j : Nat) c x, d.cells[j]? = some c → v.cells[j]? = some x → RepD ρ I w c x) ∧ ∀ c ∈ d.cells, c.one = true := by
  cases h with
  | agg hl ho hh => exact ⟨hl, hh, ho⟩
  | _ =>
    refine ⟨rfl, ?_, ?_⟩
    · intro j c x hc hx
      cases j with
      | zero => simp only [DV.cells, List.getElem?_cons_zero, Option.some.injEq] at hc; simp only [Value.cells, List.getElem?_toArray, List.getElem?_cons_zero, Option.some.injEq] at hx; subst hc; subst hx; constructor <;> assumption
      | succ j => simp [DV.cells] at hc
    · intro c hc; simp only [DV.cells, List.mem_singleton] at hc; subst hc; rfl

theorem splL_spec {α : Type} : ∀ (l : List α) (off : Nat) (c : List α), off + c.length ≤ l.length → (splL l off c).length = l.length ∧
    ∀ (j : Nat), (splL l off c)[j]? = if off ≤ j ∧ j < off + c.length then c[j - off]? else l[j]? := by
  intro l
  induction l with
  | nil =>
    intro off c h
    have h' : off + c.length ≤ 0 := h
    have : c = [] := List.length_eq_zero_iff.1 (by omega)
    subst this
    have : off = 0 := by simpa using h'
    subst this
    simp [splL]
  | cons x l ih =>
    intro off c h
    cases off with
    | zero =>
      cases c with
      | nil => simp [splL]
      | cons y c =>
        obtain ⟨h1, h2⟩ := ih 0 c (by simp at h ⊢; omega)
        refine ⟨by simp [splL, h1], fun j => ?_⟩
        cases j with
        | zero => simp [splL]
        | succ j => simp [splL, h2]
    | succ off =>
      obtain ⟨h1, h2⟩ := ih off c (by simp at h; omega)
      have e : splL (x :: l) (off + 1) c = x :: splL l off c := by cases c <;> rfl
      rw [e]
      refine ⟨by simp [h1], fun j => ?_⟩
      cases j with
      | zero => simp
      | succ j =>
        simp only [List.getElem?_cons_succ, h2, Nat.add_le_add_iff_right]
        have : j + 1 < off + 1 + c.length ↔ j < off + c.length := by omega
        simp only [this, Nat.add_sub_add_right]

end
end Go.Px

/- What one operation does: structs that are built; conversions. -/
namespace Go.Px
section
variable {E : Env} {g : Gh} {oT : Nat → Option Nat} {st st' : St} {a : Act} {w : World} {o : Oper} {gd : Option (Nat × Bool)}

/-- Cells that stand for cells. -/
def RepL (ρ : List Nat) (I : Nat → Nat → Prop) (w : World) (z : List DV) (cs : Array Value) : Prop :=
  cs.size = z.length ∧ ∀ (j : Nat) c v, z[j]? = some c → cs[j]? = some v → RepD ρ I w c v

theorem foldl_set (vs : List Value) (off : Nat) : ∀ (k : Nat) (cs : Array Value), off + k + vs.length ≤ cs.size →
    ((vs.zipIdx k).foldl (fun cs p => cs.setIfInBounds (off + p.2) p.1) cs).size = cs.size ∧
    ∀ (j : Nat), ((vs.zipIdx k).foldl (fun cs p => cs.setIfInBounds (off + p.2) p.1) cs)[j]? = if off + k ≤ j ∧ j < off + k + vs.length then vs[j - (off + k)]? else cs[j]? := by
  induction vs with
  | nil =>
    intro k cs _
    refine ⟨rfl, fun j => ?_⟩
    have : ¬ (off + k ≤ j ∧ j < off + k + ([] : List Value).length) := by simp
    rw [if_neg this]; rfl
  | cons v vs ih =>
    intro k cs h
    simp only [List.length_cons] at h
    simp only [List.zipIdx_cons, List.foldl_cons]
    obtain ⟨h1, h2⟩ := ih (k + 1) (cs.setIfInBounds (off + k) v) (by simp; omega)
    refine ⟨by rw [h1]; simp, fun j => ?_⟩
    rw [h2]
    by_cases hj : j = off + k
    · subst hj
      have c1 : ¬ (off + (k + 1) ≤ off + k ∧ off + k < off + (k + 1) + vs.length) := by omega
      have c2 : off + k ≤ off + k ∧ off + k < off + k + (v :: vs).length := by simp
      rw [if_neg c1, if_pos c2]
      simp only [Nat.sub_self, List.getElem?_cons_zero]
      rw [Array.getElem?_setIfInBounds_self_of_lt]; omega
    · by_cases hc : off + k ≤ j ∧ j < off + k + (v :: vs).length
      · have c1 : off + (k + 1) ≤ j ∧ j < off + (k + 1) + vs.length := by simp at hc; omega
        rw [if_pos c1, if_pos hc]
        have : j - (off + k) = j - (off + (k + 1)) + 1 := by omega
        rw [this, List.getElem?_cons_succ]
      · have c1 : ¬ (off + (k + 1) ≤ j ∧ j < off + (k + 1) + vs.length) := by simp at hc ⊢; omega
        rw [if_neg c1, if_neg hc, Array.getElem?_setIfInBounds_ne (by omega)]

theorem fill_rep (h : RS E g oT st a w) (place : Nat → Option (Nat × Nat)) : ∀ (ps : List (Nat × Operand)) (xs : List (Nat × Nat × XV)) (z r : List DV) (cs : Array Value),
    ps.length = xs.length → (∀ (j : Nat) p x, ps[j]? = some p → xs[j]? = some x → place p.1 = some (x.1, x.2.1) ∧ opnd p.2 = some x.2.2) →
    RepL g.ρ g.I w z cs → (∀ c ∈ z, c.one = true) → bldD st z xs = some r → ∃ cs', Instr.fill place cs (ps.map fun p => (p.1, a.eval p.2)) = some cs' ∧ RepL g.ρ g.I w r cs' ∧ ∀ c ∈ r, c.one = true := by
  intro ps
  induction ps with
  | nil =>
    intro xs z r cs hl _ hz ho hb
    have : xs = [] := List.length_eq_zero_iff.1 hl.symm
    subst this
    simp only [bldD, Option.some.injEq] at hb; subst hb
    exact ⟨cs, rfl, hz, ho⟩
  | cons p ps ih =>
    intro xs z r cs hl hp hz ho hb
    cases xs with
    | nil => simp at hl
    | cons x xs =>
      obtain ⟨off, n, x⟩ := x
      obtain ⟨hp1, hp2⟩ := hp 0 p (off, n, x) rfl rfl
      simp only [bldD] at hb
      split at hb
      · rename_i v hv
        split at hb
        · rename_i hc
          obtain ⟨hc1, hc2⟩ := hc
          have hr : RepD g.ρ g.I w v (a.eval p.2) := toD_rep (ev_rep h hp2) hv
          obtain ⟨e1, e2, e3⟩ := cells_rep hr
          obtain ⟨s1, s2⟩ := splL_spec z off v.cells (by omega)
          have hsz : cs.size = z.length := hz.1
          obtain ⟨f1, f2⟩ := foldl_set (a.eval p.2).cells.toList off 0 cs (by simp; omega)
          have hz' : RepL g.ρ g.I w (splL z off v.cells) ((a.eval p.2).cells.zipIdx.foldl (fun cs p => cs.setIfInBounds (off + p.2) p.1) cs) := by
            rw [← Array.foldl_toList, Array.toList_zipIdx]
            refine ⟨by rw [f1, s1, hsz], ?_⟩
            intro j c y hc hy
            rw [f2] at hy
            rw [s2] at hc
            simp only [Nat.add_zero, Array.length_toList, e1] at hy
            split at hc
            · rename_i hj
              rw [if_pos hj] at hy
              exact e2 (j - off) c y hc (by simpa using hy)
            · rename_i hj
              rw [if_neg hj] at hy
              exact hz.2 j c y hc hy
          have ho' : ∀ c ∈ splL z off v.cells, c.one = true := by
            intro c hc
            obtain ⟨j, hj⟩ := List.getElem?_of_mem hc
            rw [s2] at hj
            split at hj
            · exact e3 c (List.mem_of_getElem? hj)
            · exact ho c (List.mem_of_getElem? hj)
          obtain ⟨cs', q1, q2⟩ := ih xs _ r _ (by simpa using hl) (fun j p' x' h1 h2 => hp (j + 1) p' x' (by simpa using h1) (by simpa using h2)) hz' ho' hb
          refine ⟨cs', ?_, q2⟩
          simp only [List.map_cons, Instr.fill, hp1]
          rw [if_neg (by simp; omega)]
          exact q1
        · cases hb
      · cases hb

theorem mapM_run {α β : Type} (P : Program) (f : α → Sem β) (w : World) : ∀ (l : List α) (r : List β), r.length = l.length → (∀ (j : Nat) x y, l[j]? = some x → r[j]? = some y → (f x).run P w = .ok y w) → (l.mapM f).run P w = .ok r w := by
  intro l
  induction l with
  | nil => intro r h _; have : r = [] := List.length_eq_zero_iff.1 h; subst this; rfl
  | cons x l ih =>
    intro r h hh
    cases r with
    | nil => simp at h
    | cons y r =>
      simp only [List.mapM_cons, Sem.run_bind, hh 0 x y rfl rfl, Result.andThen_ok, ih r (by simpa using h) (fun j x y h1 h2 => hh (j + 1) x y (by simpa using h1) (by simpa using h2)), Sem.run_pure]

theorem ofC_cells {v : Value} {d : DV} (h : ofC v = some d) : v.cells.size = d.cells.length := (cells_rep (ofC_rep h [] (fun _ _ => False) default)).1

theorem snd_buildS (h : RS E g oT st a w) (hd : ∀ t, o.dst = some t → t < a.tmps.size) {t : TypeId} {ps : Array (Nat × Operand)} {fs : Array Field} {z : List DV} {qs : List (Nat × XV)} {xs : List (Nat × Nat × XV)}
    (hz : zeroP E.P t = some (.agg z)) (hu : E.P.underlying t = some (.struct fs)) (hq : allSome (fun (p : Nat × Operand) => (opnd p.2).map (p.1, ·)) ps.toList = some qs)
    (hx : allSome (fun (p : Nat × XV) => match fs[p.1]? with | some f => (szP E.P f.type).map (f.offset, ·, p.2) | none => none) qs = some xs) (hall : allSome (fun (f : Field) => szP E.P f.type) fs.toList ≠ none)
    (hop : o.op = .build t ps) (hF : opF ⟨o.dst, .build z xs, gd⟩ st = some st') : Res E (execOp a.eval o) g oT st.hp a w o.dst st' := by
  simp only [opF, Option.map_eq_some_iff] at hF
  obtain ⟨cs, hcs, rfl⟩ := hF
  obtain ⟨q1, q2⟩ := allSome_spec hq
  obtain ⟨x1, x2⟩ := allSome_spec hx
  obtain ⟨zv, hz1, hz2⟩ := run_zero (w := w) hz
  have hzr := ofC_rep hz2 g.ρ g.I w
  obtain ⟨c1, c2, c3⟩ := cells_rep hzr
  cases hsz : allSome (fun (f : Field) => szP E.P f.type) fs.toList with
  | none => exact absurd hsz hall
  | some szs =>
    obtain ⟨s1, s2⟩ := allSome_spec hsz
    have hplaces : (fs.mapM fun f => (do pure (f.offset, ← sizeOf f.type) : Sem (Nat × Nat))).run E.P w = .ok ((fs.toList.zip szs).map fun p => (p.1.offset, p.2)).toArray w := by
      rw [Array.mapM_eq_mapM_toList]
      simp only [Sem.run_map]
      rw [mapM_run E.P _ w fs.toList ((fs.toList.zip szs).map fun p => (p.1.offset, p.2)) (by simp [s1]) ?_]
      · rfl
      · intro j f y hf hy
        simp only [List.getElem?_map, List.getElem?_zip_eq_some, Option.map_eq_some_iff, Prod.exists] at hy
        obtain ⟨f', n, ⟨hf', hn⟩, rfl⟩ := hy
        rw [hf] at hf'; cases hf'
        simp only [Sem.run_bind, run_sz (s2 j f n hf hn), Result.andThen_ok, Sem.run_pure]
    have hside : ∀ (j : Nat) (p : Nat × Operand) (x : Nat × Nat × XV), ps.toList[j]? = some p → xs[j]? = some x →
        ((fs.toList.zip szs).map fun p => (p.1.offset, p.2)).toArray[p.1]? = some (x.1, x.2.1) ∧ opnd p.2 = some x.2.2 := by
      intro j p x hp hxj
      have hlt := (List.getElem?_eq_some_iff.1 hp).1
      have hqj : qs[j]? = some qs[j] := List.getElem?_eq_getElem (by omega)
      have e1 := q2 j p _ hp hqj
      have e2 := x2 j _ x hqj hxj
      simp only [Option.map_eq_some_iff] at e1
      obtain ⟨y, hy, e1⟩ := e1
      rw [← e1] at e2
      simp only at e2
      split at e2
      · rename_i f hf
        simp only [Option.map_eq_some_iff] at e2
        obtain ⟨n, hn, rfl⟩ := e2
        refine ⟨?_, hy⟩
        have hflt := (Array.getElem?_eq_some_iff.1 hf).1
        have hsl : p.1 < szs.length := by simp at s1; omega
        have hsj : szs[p.1]? = some szs[p.1] := List.getElem?_eq_getElem hsl
        have := s2 p.1 f _ (by simpa using hf) hsj
        rw [hn] at this
        simp only [Option.some.injEq] at this
        simp only [List.getElem?_toArray, List.getElem?_map, List.getElem?_zip_eq_some, Option.map_eq_some_iff, Prod.exists]
        exact ⟨f, n, ⟨by simpa using hf, by rw [this]; exact hsj⟩, rfl⟩
      · cases e2
    obtain ⟨cs', f1, f2, f3⟩ := fill_rep h (fun i => ((fs.toList.zip szs).map fun p => (p.1.offset, p.2)).toArray[i]?) ps.toList xs z cs zv.cells (by rw [x1, q1]) hside ⟨c1, c2⟩ c3 hcs
    refine .pure h _ _ (.agg cs') hd ?_ (.d (.agg f2.1 f3 f2.2)) (fun s hs => absurd hs not_hasLoc_d) (by simp)
    simp only [execOp, hop, Instr.build, Sem.run_bind, hz1, Result.andThen_ok, run_und hu, hplaces, Array.toList_map]
    simp only [f1, Sem.run_pure, Result.andThen_ok]

theorem snd_buildA (h : RS E g oT st a w) (hd : ∀ t, o.dst = some t → t < a.tmps.size) {t e : TypeId} {ps : Array (Nat × Operand)} {len n : Nat} {z : List DV} {qs : List (Nat × XV)}
    (hz : zeroP E.P t = some (.agg z)) (hu : E.P.underlying t = some (.array len e)) (hn : szP E.P e = some n) (hq : allSome (fun (p : Nat × Operand) => (opnd p.2).map (p.1, ·)) ps.toList = some qs)
    (hop : o.op = .build t ps) (hF : opF ⟨o.dst, .build z (qs.map fun p => (p.1 * n, n, p.2)), gd⟩ st = some st') : Res E (execOp a.eval o) g oT st.hp a w o.dst st' := by
  simp only [opF, Option.map_eq_some_iff] at hF
  obtain ⟨cs, hcs, rfl⟩ := hF
  obtain ⟨q1, q2⟩ := allSome_spec hq
  obtain ⟨zv, hz1, hz2⟩ := run_zero (w := w) hz
  have hzr := ofC_rep hz2 g.ρ g.I w
  obtain ⟨c1, c2, c3⟩ := cells_rep hzr
  have hside : ∀ (j : Nat) (p : Nat × Operand) (x : Nat × Nat × XV), ps.toList[j]? = some p → (qs.map fun p => (p.1 * n, n, p.2))[j]? = some x →
      (fun i => some (i * n, n)) p.1 = some (x.1, x.2.1) ∧ opnd p.2 = some x.2.2 := by
    intro j p x hp hxj
    simp only [List.getElem?_map, Option.map_eq_some_iff] at hxj
    obtain ⟨q, hqj, rfl⟩ := hxj
    have e1 := q2 j p q hp hqj
    simp only [Option.map_eq_some_iff] at e1
    obtain ⟨y, hy, rfl⟩ := e1
    exact ⟨rfl, hy⟩
  obtain ⟨cs', f1, f2, f3⟩ := fill_rep h (fun i => some (i * n, n)) ps.toList (qs.map fun p => (p.1 * n, n, p.2)) z cs zv.cells (by simp [q1]) hside ⟨c1, c2⟩ c3 hcs
  refine .pure h _ _ (.agg cs') hd ?_ (.d (.agg f2.1 f3 f2.2)) (fun s hs => absurd hs not_hasLoc_d) (by simp)
  simp only [execOp, hop, Instr.build, Sem.run_bind, hz1, Result.andThen_ok, run_und hu, run_sz hn, Array.toList_map]
  simp only [f1, Sem.run_pure, Result.andThen_ok]

/-! ### Conversions -/

theorem snd_convI (h : RS E g oT st a w) (hd : ∀ t, o.dst = some t → t < a.tmps.size) {s t : TypeId} {x : Operand} {xv : XV} {k k' : IntKind} (hx : opnd x = some xv)
    (hs : E.P.underlying s = some (.int k')) (ht : E.P.underlying t = some (.int k)) (hop : o.op = .convert s t x) (hF : opF ⟨o.dst, .conv (.int k) xv, gd⟩ st = some st') :
    Res E (execOp a.eval o) g oT st.hp a w o.dst st' := by
  have hr := ev_rep h hx
  simp only [opF, Option.map_eq_some_iff] at hF
  obtain ⟨v, hv, rfl⟩ := hF
  generalize hxe : a.eval x = ax at hr
  unfold convV at hv
  split at hv
  · rename_i j n e
    rw [e] at hr
    have hr := hr.d_inv
    cases hr
    simp only [Option.some.injEq] at hv; subst hv
    refine .pure h _ _ _ hd ?_ (.d (.i _ _)) (fun s hs => absurd hs not_hasLoc_d) (by simp)
    simp only [execOp, hop, convert, Sem.run_bind, run_und hs, run_und ht, Result.andThen_ok, hxe, Conv.intToInt, Sem.run_pure]
  all_goals cases hv

theorem snd_convS (h : RS E g oT st a w) (hd : ∀ t, o.dst = some t → t < a.tmps.size) {s t : TypeId} {x : Operand} {xv : XV} (hx : opnd x = some xv)
    (hs : E.P.underlying s = some .string) (ht : E.P.underlying t = some .string) (hop : o.op = .convert s t x) (hF : opF ⟨o.dst, .conv .str xv, gd⟩ st = some st') :
    Res E (execOp a.eval o) g oT st.hp a w o.dst st' := by
  have hr := ev_rep h hx
  simp only [opF, Option.map_eq_some_iff] at hF
  obtain ⟨v, hv, rfl⟩ := hF
  generalize hxe : a.eval x = ax at hr
  unfold convV at hv
  split at hv
  · cases hv
  · rename_i b e
    rw [e] at hr
    have hr := hr.d_inv
    cases hr
    simp only [Option.some.injEq] at hv; subst hv
    refine .pure h _ _ _ hd ?_ (.d (.s _)) (fun s hs => absurd hs not_hasLoc_d) (by simp)
    simp only [execOp, hop, convert, Sem.run_bind, run_und hs, run_und ht, Result.andThen_ok, hxe, Sem.run_pure]
  all_goals cases hv

end
end Go.Px

/- What one operation does: slices that are handed on; new rows; strings and bytes. -/
namespace Go.Px
section
variable {E : Env} {g : Gh} {oT : Nat → Option Nat} {st st' : St} {a : Act} {w : World} {o : Oper} {gd : Option (Nat × Bool)}

theorem mine_lose {h : Option (List BObj)} {t b : Nat} (hb : Mine g (fun n => if n = t then none else oT n) h b) : Mine g oT h b := by
  rcases hb with hb | hb | ⟨u, hu⟩
  · exact .inl hb
  · exact .inr (.inl hb)
  · simp only at hu
    split at hu
    · cases hu
    · exact .inr (.inr ⟨u, hu⟩)

theorem snd_asg (h : RS E g oT st a w) (hd : ∀ t, o.dst = some t → t < a.tmps.size) {x : Operand} {xv : XV} (hx : opnd x = some xv) (hop : o.op = .assign x)
    (hF : opF ⟨o.dst, .asg xv, gd⟩ st = some st') : Res E (execOp a.eval o) g oT st.hp a w o.dst st' := by
  have hrun : (execOp a.eval o).run E.P w = .ok (.value (a.eval x)) w := by simp [execOp, hop]
  simp only [opF] at hF
  cases ho : owned st xv with
  | none =>
    simp only [ho, Option.some.injEq] at hF; subst hF
    exact .pure h _ _ _ hd hrun (ev_rep h hx) (fun s => ev_loc h xv) (ev_ne st xv)
  | some p =>
    obtain ⟨t, sz, xs⟩ := p
    obtain ⟨rfl, hg⟩ := owned_some ho
    have hxt := opnd_t hx; subst hxt
    simp only [ho] at hF
    split at hF
    · cases hF
    · rename_i hne
      simp only [not_or] at hne
      simp only [Option.some.injEq] at hF; subst hF
      have hr := h.tm t
      rw [hg] at hr
      refine ⟨_, w, g, _, .inl hrun, (h.lose t).put o.dst (.os sz xs) _ (oT t) hd hr (fun s hs => absurd hs not_hasLoc_os) ?_ ?_, ?_⟩
      · intro sz' xs' e; cases e; exact h.ot t sz xs hg
      · intro b hb
        obtain ⟨b1, b2, b3, b4⟩ := h.on t b hb
        refine ⟨b1, b2, b3, b4, fun u _ => ?_⟩
        split
        · simp
        · rename_i e; intro hu; exact e (h.oi u t b hu hb)
      · have e : ((st.lose t).put o.dst (.os sz xs)).hp = st.hp := by cases o.dst <;> rfl
        rw [e]
        refine Stp.same (fun b hb => .inl ?_) rfl
        rcases mine_put hb with hb | hb
        · exact mine_lose hb
        · exact .inr (.inr ⟨t, hb⟩)

/-! ### The world grows -/

/-- More may be told, of what nobody else may write. -/
theorem RS.grow (h : RS E g oT st a w) (w' : World) (I' : Nat → Nat → Prop)
    (hsz : w.heap.size ≤ w'.heap.size) (hos : w'.os = w.os) (hta : w'.tape = w.tape) (hou : w'.output = w.output)
    (hold : ∀ x, x < E.w0.heap.size → w'.heap[x]? = w.heap[x]?)
    (hbl : ∀ b ∈ blks g st.hp, w'.heap[b]? = w.heap[b]? ∧ ∀ k, ¬ I' b k)
    (how : ∀ x i b, g.owM x i = some b → w'.heap[b]? = w.heap[b]? ∧ ∀ k, I' b k → g.I b k)
    (hoT : ∀ t b, oT t = some b → w'.heap[b]? = w.heap[b]? ∧ ∀ k, I' b k → g.I b k)
    (hI : ∀ b k, g.I b k → I' b k) (hIc : ∀ b k, g.I b k → w'.cell? ⟨b, k, none⟩ = w.cell? ⟨b, k, none⟩)
    (hlt : ∀ b k, I' b k → b < w'.heap.size) : RS E { g with I := I' } oT st a w' := by
  refine ⟨h.m.grow w' I' hsz hos hta hou hold hbl how hI hIc hlt, ?_, ?_, ?_, h.oi, ?_, h.clT, h.clB, h.clC⟩
  · intro t; exact (h.tm t).mono (List.prefix_refl _) hI hIc (fun _ _ hr _ => hr)
  · intro t sz xs e; exact (h.ot t sz xs e).mono fun b hb => hoT t b hb
  · intro t b hb; obtain ⟨b1, b2, b3, b4⟩ := h.on t b hb; exact ⟨b1, b2, b3, by omega⟩
  · intro t l hl
    have hc := h.cp t l hl
    cases l with
    | t n => exact hc
    | c r off =>
      obtain ⟨b, h1, h2⟩ := hc
      exact ⟨b, h1, (cell?_of (hbl b (List.mem_append_right _ (resB_mem h1))).1 off).trans h2⟩
    | o i off =>
      obtain ⟨h0, b, h1, h2⟩ := hc
      refine ⟨h0, b, h1, (cell?_of (hbl b ?_).1 off).trans h2⟩
      cases hh : st.hp with
      | none => exact absurd hh h0
      | some os => exact List.mem_append_left _ (List.mem_of_getElem? h1)

/-- The step of such a growth. -/
theorem Stp.grow {h : Option (List BObj)} {oT' : Nat → Option Nat} {w' : World} {I' : Nat → Nat → Prop}
    (hsz : w.heap.size ≤ w'.heap.size) (hos : w'.os = w.os) (hta : w'.tape = w.tape) (hou : w'.output = w.output)
    (hI : ∀ b k, g.I b k → I' b k) (hIc : ∀ b k, g.I b k → w'.cell? ⟨b, k, none⟩ = w.cell? ⟨b, k, none⟩)
    (hfar : ∀ b, b < w.heap.size → ¬ Mine g oT h b → w'.heap[b]? = w.heap[b]? ∧ ∀ k, I' b k → g.I b k)
    (hm : ∀ b, Mine { g with I := I' } oT' h b → Mine g oT h b ∨ w.heap.size ≤ b) : Stp g oT h w { g with I := I' } oT' h w' :=
  ⟨hsz, hos, hta, hou, hI, hIc, hfar, hm, List.prefix_refl _, rfl, rfl, fun _ => rfl⟩

theorem Res.pre {sem : Sem Next} {g1 : Gh} {oT1 : Nat → Option Nat} {h0 h1 : Option (List BObj)} {d : Option Nat} (hs : Stp g oT h0 w g1 oT1 h1 w) (h : Res E sem g1 oT1 h1 a w d st') :
    Res E sem g oT h0 a w d st' := by
  obtain ⟨v, w', g', oT', h1, h2, h3⟩ := h
  exact ⟨v, w', g', oT', h1, h2, hs.trans h3⟩

/-- A new row, its slice owned. -/
theorem Res.fresh {sem : Sem Next} (h : RS E g oT st a w) (d : Option Nat) (sz : Nat) (xs : List DV) (w' : World) (cap : Nat) (arr : Array Value) (t : TypeId) (fz : Nat × Nat)
    (hd : ∀ t, d = some t → t < a.tmps.size)
    (hrun : sem.run E.P w = .ok (.value (.slice (some ⟨w.heap.size, 0, none⟩) xs.length cap)) w')
    (hsz : w'.heap.size = w.heap.size + 1) (hos : w'.os = w.os) (hta : w'.tape = w.tape) (hou : w'.output = w.output)
    (hold : ∀ x, x < w.heap.size → w'.heap[x]? = w.heap[x]?) (hnew : w'.heap[w.heap.size]? = some (.cells arr t fz)) (harr : arr.size = cap * sz)
    (hfz : ∀ k, k < cap * sz → ¬ (fz.1 ≤ k ∧ k < fz.2)) (hcap : xs.length ≤ cap) (hs : ∀ x ∈ xs, x.cells.length = sz ∧ ∀ c ∈ x.cells, c.one = true)
    (hv : ∀ (j : Nat) (x : DV) (k : Nat) (c : DV) (v : Value), xs[j]? = some x → x.cells[k]? = some c → arr[j * sz + k]? = some v → RepD g.ρ g.I w c v) :
    Res E sem g oT st.hp a w d (st.put d (.os sz xs)) := by
  have hI : ∀ b k, g.I b k → b < w.heap.size := h.m.lt
  have hIc : ∀ b k, g.I b k → w'.cell? ⟨b, k, none⟩ = w.cell? ⟨b, k, none⟩ := fun b k hb => cell?_of (hold b (hI b k hb)) k
  have hnotI : ∀ k, ¬ g.I w.heap.size k := fun k hk => by have := hI _ k hk; omega
  have hg := h.grow w' (fun b k => g.I b k ∨ (b = w.heap.size ∧ k < xs.length * sz)) (by omega) hos hta hou (fun x hx => hold x (by have := h.m.below.size; omega))
    (fun b hb => by
      obtain ⟨a1, a2, a3⟩ := h.m.new b hb
      exact ⟨hold b a2, fun k hk => hk.elim (a3 k) (fun e => by omega)⟩)
    (fun x i b hb => by
      have := h.m.own x i b hb
      exact ⟨hold b this.2.2.2, fun k hk => hk.elim id (fun e => by omega)⟩)
    (fun u b hb => by
      have := h.on u b hb
      exact ⟨hold b this.2.2.2, fun k hk => hk.elim id (fun e => by omega)⟩)
    (fun _ _ => .inl) hIc (fun b k hk => hk.elim (fun h => by have := hI b k h; omega) (fun e => by omega))
  have hle : xs.length * sz ≤ cap * sz := Nat.mul_le_mul_right _ hcap
  have hrep : RepD g.ρ (fun b k => g.I b k ∨ (b = w.heap.size ∧ k < xs.length * sz)) w' (.sl sz xs) (.slice (some ⟨w.heap.size, 0, none⟩) xs.length cap) := by
    refine .sl (fun k => arr.getD k undef) hcap hs ?_ ?_
    · intro k hk
      refine ⟨?_, .inr ⟨rfl, by omega⟩⟩
      simp only [World.cell?, hnew, Nat.zero_add]
      rw [Array.getD_eq_getD_getElem?, Array.getElem?_eq_getElem (by omega)]; rfl
    · intro j x k c hx hc
      have hjl := (List.getElem?_eq_some_iff.1 hx).1
      have hkl := (List.getElem?_eq_some_iff.1 hc).1
      have hxs := (hs x (List.mem_of_getElem? hx)).1
      have hlt : j * sz + k < arr.size := by
        have : (j + 1) * sz ≤ cap * sz := Nat.mul_le_mul_right _ (by omega)
        rw [Nat.succ_mul] at this; omega
      have := hv j x k c arr[j * sz + k] hx hc (Array.getElem?_eq_getElem hlt)
      rw [Array.getD_eq_getD_getElem?, Array.getElem?_eq_getElem hlt]
      exact this.mono (List.prefix_refl _) (fun _ _ => .inl) hIc
  refine ⟨_, w', _, _, .inl hrun, hg.put d (.os sz xs) _ (some w.heap.size) hd (.os hrep) (fun s hs => absurd hs not_hasLoc_os) ?_ ?_, ?_⟩
  · intro sz' xs' e
    cases e
    refine ⟨_, _, _, rfl, fun _ => ⟨rfl, ⟨arr, t, fz, hnew, by omega, fun k hk => hfz k (by omega)⟩, fun k hk hh => ?_⟩⟩
    rcases hh with hh | hh
    · exact hnotI k hh
    · omega
  · intro b hb
    cases hb
    refine ⟨fun hm => ?_, fun y i hy => ?_, h.m.below.size, by omega, fun u _ hu => ?_⟩
    · have := (h.m.new _ hm).2.1; omega
    · have := (h.m.own y i _ hy).2.2.2; omega
    · have := (h.on u _ hu).2.2.2; omega
  · have e : (st.put d (.os sz xs)).hp = st.hp := by cases d <;> rfl
    rw [e]
    refine Stp.grow (by omega) hos hta hou (fun _ _ => .inl) hIc (fun b hb _ => ⟨hold b hb, fun k hk => hk.elim id (fun e => by omega)⟩) (fun b hb => ?_)
    rcases mine_put hb with hb | hb
    · exact .inl hb
    · cases hb; exact .inr (Nat.le_refl _)

/-! ### Strings and bytes -/

theorem toBytes_spec : ∀ {xs : List DV} {l : List UInt8}, toBytes xs = some l → l.length = xs.length ∧ ∀ (j : Nat) x, xs[j]? = some x → ∃ n : Int, x = .i .u8 n ∧ l[j]? = some (UInt8.ofNat n.toNat) := by
  intro xs
  induction xs with
  | nil => intro l h; simp only [toBytes, Option.some.injEq] at h; subst h; simp
  | cons x xs ih =>
    intro l h
    unfold toBytes at h
    split at h
    · rename_i e; cases e
    · rename_i n l' e
      cases e
      simp only [Option.map_eq_some_iff] at h
      obtain ⟨l', hl, rfl⟩ := h
      obtain ⟨h1, h2⟩ := ih hl
      refine ⟨by simp [h1], ?_⟩
      intro j y hy
      cases j with
      | zero => simp at hy; subst hy; exact ⟨n, rfl, rfl⟩
      | succ j => simp at hy; simpa using h2 j y hy
    · cases h

theorem foldl_push (l : List UInt8) : ∀ (r : ByteArray), (l.foldl (fun (r : ByteArray) n => r.push n) r) = ⟨(r.data.toList ++ l).toArray⟩ := by
  induction l with
  | nil => intro r; cases r; simp
  | cons b l ih => intro r; rw [List.foldl_cons, ih]; cases r; simp [ByteArray.push]

theorem snd_convB (h : RS E g oT st a w) (hd : ∀ t, o.dst = some t → t < a.tmps.size) {s t e : TypeId} {x : Operand} {xv : XV} (hx : opnd x = some xv)
    (hs : E.P.underlying s = some (.slice e)) (he : E.P.underlying e = some (.int .u8)) (ht : E.P.underlying t = some .string) (hop : o.op = .convert s t x) (hF : opF ⟨o.dst, .conv .b2s xv, gd⟩ st = some st') :
    Res E (execOp a.eval o) g oT st.hp a w o.dst st' := by
  have hr := ev_rep h hx
  simp only [opF, Option.map_eq_some_iff] at hF
  obtain ⟨v, hv, rfl⟩ := hF
  generalize hxe : a.eval x = ax at hr
  unfold convV at hv
  split at hv
  · cases hv
  · cases hv
  · rename_i xs e'
    rw [e'] at hr
    have hr := hr.d_inv
    simp only [Option.map_eq_some_iff] at hv
    obtain ⟨l, hl, rfl⟩ := hv
    obtain ⟨l1, l2⟩ := toBytes_spec hl
    cases hr with | @sl _ _ b off cap vs hc hs' hm hh =>
    refine .pure h _ _ (.string ⟨l.toArray⟩) hd ?_ (.d (.s _)) (fun s hs => absurd hs not_hasLoc_d) (by simp)
    have hns : ∃ ns : List Int, ns.length = xs.length ∧ (∀ j n, ns[j]? = some n → vs j = .int .u8 n) ∧ ns.map (fun n => UInt8.ofNat n.toNat) = l := by
      refine ⟨xs.map (fun x => match x with | .i _ n => n | _ => 0), by simp, ?_, ?_⟩
      · intro j n hn
        simp only [List.getElem?_map, Option.map_eq_some_iff] at hn
        obtain ⟨y, hy, hyn⟩ := hn
        obtain ⟨n', rfl, _⟩ := l2 j y hy
        simp only at hyn; subst hyn
        have := hh j _ 0 (.i .u8 n') hy rfl
        simp only [Nat.mul_one, Nat.add_zero] at this
        generalize vs j = q at this
        cases this; rfl
      · apply List.ext_getElem?
        intro j
        simp only [List.map_map, List.getElem?_map]
        cases hy : xs[j]? with
        | none => have := List.getElem?_eq_none_iff.1 hy; simp; omega
        | some y => obtain ⟨n', rfl, h2⟩ := l2 j y hy; simp [h2]
    obtain ⟨ns, n1, n2, n3⟩ := hns
    have hload : (loadCells ⟨b, off, none⟩ xs.length).run E.P w = .ok (ns.map (Value.int .u8)).toArray w := by
      have := run_loadCells_list (P := E.P) w ⟨b, off, none⟩ (ns.map (Value.int .u8)) (by
        intro j v hv
        simp only [List.getElem?_map, Option.map_eq_some_iff] at hv
        obtain ⟨n, hn, rfl⟩ := hv
        have hj := (List.getElem?_eq_some_iff.1 hn).1
        have := (hm j (by omega)).1
        rw [n2 j n hn] at this
        have hadd : (⟨b, off, none⟩ : Addr).add j = ⟨b, off + j, none⟩ := by unfold Addr.add; split <;> simp_all
        rw [hadd]; exact this)
      simpa [n1] using this
    simp only [execOp, hop, Sem.run_bind, hxe, run_convert_bytes_string w s t e _ _ _ hs he ht, run_bytesToString w _ _ cap ns hload, Result.andThen_ok, Sem.run_pure]
    congr 3
    rw [← List.foldl_map (f := fun n : Int => UInt8.ofNat n.toNat) (g := fun (r : ByteArray) n => r.push n), n3, foldl_push]
    rfl
  · rename_i e'
    rw [e'] at hr
    have hr := hr.d_inv
    cases hr
    simp only [Option.some.injEq] at hv; subst hv
    refine .pure h _ _ _ hd ?_ (.d (.s _)) (fun s hs => absurd hs not_hasLoc_d) (by simp)
    simp only [execOp, hop, Sem.run_bind, hxe, run_convert_bytes_string w s t e _ _ _ hs he ht, Conv.bytesToString, Result.andThen_ok, Sem.run_pure]
  · cases hv

theorem encB_get (l : List UInt8) (j : Nat) : (encB l)[j]? = (l[j]?).map fun b => .i .u8 b.toNat := by simp [encB]

theorem snd_convA (h : RS E g oT st a w) (hd : ∀ t, o.dst = some t → t < a.tmps.size) {s t e : TypeId} {x : Operand} {xv : XV} (hx : opnd x = some xv)
    (hs : E.P.underlying s = some .string) (he : E.P.underlying e = some (.int .u8)) (ht : E.P.underlying t = some (.slice e)) (hop : o.op = .convert s t x) (hF : opF ⟨o.dst, .conv (.s2b e) xv, gd⟩ st = some st') :
    Res E (execOp a.eval o) g oT st.hp a w o.dst st' := by
  have hr := ev_rep h hx
  simp only [opF, Option.map_eq_some_iff] at hF
  obtain ⟨v, hv, rfl⟩ := hF
  generalize hxe : a.eval x = ax at hr
  unfold convV at hv
  split at hv
  · cases hv
  · rename_i b e'
    rw [e'] at hr
    have hr := hr.d_inv
    cases hr
    simp only at hv
    split at hv
    · simp only [Option.some.injEq] at hv; subst hv
      have hsz : b.data.toList.length = b.size := by simp only [Array.length_toList]; rfl
      have hle : (encB b.data.toList).length = b.size := by rw [encB, List.length_map]; exact hsz
      have hcap : b.size ≤ grownCap w b.size 0 e := grownCap_ge w _ _ _
      refine .fresh h o.dst 1 _ (Lib.bytesWorld w e b) (grownCap w b.size 0 e) (Lib.bytesCells w e b) e _ hd ?_ (Lib.bytesWorld_size w e b) ?_ ?_ ?_ (Lib.bytesWorld_at_old w e b) (Lib.bytesWorld_at_new w e b) ?_ ?_ (by omega) ?_ ?_
      · simp only [execOp, hop, Sem.run_bind, hxe, Lib.run_convert_string_bytes w s t e b hs ht he, Result.andThen_ok, Sem.run_pure, hle]
      · simp [Lib.bytesWorld, World.freeze, World.alloc, World.drew, -World.alloc_eq, -World.drew_eq]
      · simp [Lib.bytesWorld, World.freeze, World.alloc, World.drew, -World.alloc_eq, -World.drew_eq]
      · simp [Lib.bytesWorld, World.freeze, World.alloc, World.drew, -World.alloc_eq, -World.drew_eq]
      · simp [Lib.bytesCells]; have : b.data.size = b.size := rfl; omega
      · have : (Lib.bytesCells w e b).size = grownCap w b.size 0 e := by simp [Lib.bytesCells]; have : b.data.size = b.size := rfl; omega
        intro k hk; simp only; omega
      · intro x hx
        simp only [encB, List.mem_map] at hx
        obtain ⟨y, _, rfl⟩ := hx
        exact ⟨rfl, by simp [DV.cells, DV.one]⟩
      · intro j x k c v hx hc hv
        rw [encB_get] at hx
        simp only [Option.map_eq_some_iff] at hx
        obtain ⟨y, hy, rfl⟩ := hx
        cases k with
        | succ k => cases hc
        | zero =>
          cases hc
          have hjl := (List.getElem?_eq_some_iff.1 hy).1
          rw [Lib.bytesCells, Array.getElem?_append] at hv
          rw [if_pos (by simpa using hjl)] at hv
          simp only [Nat.mul_one, Nat.add_zero, Array.getElem?_map, Option.map_eq_some_iff] at hv
          obtain ⟨z, hz, rfl⟩ := hv
          have : b.data.toList[j]? = some z := by simpa using hz
          rw [hy] at this; cases this
          exact .i _ _
    · cases hv
  all_goals cases hv

end
end Go.Px

/- What one operation does: slices that are made; flat cells. -/
namespace Go.Px
section
variable {E : Env} {g : Gh} {oT : Nat → Option Nat} {st st' : St} {a : Act} {w : World} {o : Oper} {gd : Option (Nat × Bool)}

def flat (xs : List DV) : List DV := xs.flatMap DV.cells

theorem flat_len {n : Nat} : ∀ {xs : List DV}, (∀ x ∈ xs, x.cells.length = n) → (flat xs).length = xs.length * n := by
  intro xs
  induction xs with
  | nil => intro _; simp [flat]
  | cons x xs ih =>
    intro h
    have h1 := h x List.mem_cons_self
    have h2 := ih (fun y hy => h y (List.mem_cons_of_mem _ hy))
    simp only [flat, List.flatMap_cons, List.length_append, List.length_cons, Nat.succ_mul] at h2 ⊢
    rw [h2, h1]; omega

theorem flat_get {n : Nat} : ∀ {xs : List DV}, (∀ x ∈ xs, x.cells.length = n) → ∀ (j k : Nat), k < n → (flat xs)[j * n + k]? = (xs[j]?).bind (·.cells[k]?) := by
  intro xs
  induction xs with
  | nil => intro _ j k _; simp [flat]
  | cons x xs ih =>
    intro h j k hk
    have h1 := h x List.mem_cons_self
    have h2 := ih (fun y hy => h y (List.mem_cons_of_mem _ hy))
    simp only [flat, List.flatMap_cons] at h2 ⊢
    cases j with
    | zero => rw [List.getElem?_append_left (by omega)]; simp
    | succ j =>
      rw [List.getElem?_append_right (by rw [h1, Nat.succ_mul]; omega), h1]
      have : (j + 1) * n + k - n = j * n + k := by rw [Nat.succ_mul]; omega
      rw [this, h2 j k hk]; simp

theorem flat_app (xs ys : List DV) : flat (xs ++ ys) = flat xs ++ flat ys := by simp [flat]

theorem flat_one {xs : List DV} (h : ∀ x ∈ xs, ∀ c ∈ x.cells, c.one = true) : ∀ c ∈ flat xs, c.one = true := by
  intro c hc
  simp only [flat, List.mem_flatMap] at hc
  obtain ⟨x, hx, hc⟩ := hc
  exact h x hx c hc

theorem splL_zero (l c r : List DV) (h : l.length = c.length) : splL (l ++ r) 0 c = c ++ r := by
  induction l generalizing c with
  | nil => have : c = [] := List.length_eq_zero_iff.1 h.symm; subst this; cases r <;> rfl
  | cons x l ih =>
    cases c with
    | nil => cases h
    | cons y c => simp only [List.cons_append, splL]; rw [ih c (by simpa using h)]

theorem splL_skip (l r c : List DV) (k : Nat) : splL (l ++ r) (l.length + k) c = l ++ splL r k c := by
  induction l with
  | nil => simp
  | cons x l ih =>
    have : (x :: l).length + k = (l.length + k) + 1 := by simp; omega
    rw [this]
    cases c <;> simp only [List.cons_append, splL] <;> rw [ih]

theorem flat_set {n : Nat} (v : DV) (hv : v.cells.length = n) : ∀ {xs : List DV}, (∀ x ∈ xs, x.cells.length = n) → ∀ (i : Nat), i < xs.length → splL (flat xs) (i * n) v.cells = flat (setAt xs i v) := by
  intro xs
  induction xs with
  | nil => intro _ i hi; simp at hi
  | cons x xs ih =>
    intro h i hi
    have h1 := h x List.mem_cons_self
    have h2 := ih (fun y hy => h y (List.mem_cons_of_mem _ hy))
    simp only [flat, List.flatMap_cons] at h2 ⊢
    cases i with
    | zero => simp only [Nat.zero_mul, setAt, List.flatMap_cons]; exact splL_zero _ _ _ (by omega)
    | succ i =>
      simp only [setAt, List.flatMap_cons]
      have : (i + 1) * n = x.cells.length + i * n := by rw [Nat.succ_mul, h1]; omega
      rw [this, splL_skip, h2 i (by simpa using hi)]

theorem setAt_mem {α : Type} {l : List α} {i : Nat} {v x : α} (h : x ∈ setAt l i v) : x = v ∨ x ∈ l := by
  rw [setAt_eq] at h
  rcases List.mem_or_eq_of_mem_set h with h | h
  · exact .inr h
  · exact .inl h

theorem setAt_len {α : Type} (l : List α) (i : Nat) (v : α) : (setAt l i v).length = l.length := by rw [setAt_eq]; simp

theorem toD_one {fs : List (List (Nat × Nat))} {v : AV} {x : Value} (h : RepA g.ρ g.I w fs v x) {d : DV} (hd : v.toD = some d) : ∀ c ∈ d.cells, c.one = true := (cells_rep (toD_rep h hd)).2.2

/-- The list of elements, and its cells. -/
theorem bslD_flat {n : Nat} (h : RS E g oT st a w) : ∀ {ps : List (Nat × Operand)} {qs : List (Nat × XV)} {z r : List DV}, qs.length = ps.length → (∀ (j : Nat) p q, ps[j]? = some p → qs[j]? = some q → (opnd p.2).map (p.1, ·) = some q) →
    (∀ x ∈ z, x.cells.length = n ∧ ∀ c ∈ x.cells, c.one = true) → bslD st n z qs = some r →
    bldD st (flat z) (qs.map fun p => (p.1 * n, n, p.2)) = some (flat r) ∧ r.length = z.length ∧ ∀ x ∈ r, x.cells.length = n ∧ ∀ c ∈ x.cells, c.one = true := by
  intro ps
  induction ps with
  | nil =>
    intro qs z r hl _ hz hb
    have : qs = [] := List.length_eq_zero_iff.1 hl
    subst this
    simp only [bslD, Option.some.injEq] at hb; subst hb
    exact ⟨rfl, rfl, hz⟩
  | cons p ps ih =>
    intro qs z r hl hp hz hb
    cases qs with
    | nil => simp at hl
    | cons q qs =>
      obtain ⟨i, x⟩ := q
      simp only [bslD] at hb
      split at hb
      · rename_i v hv
        split at hb
        · rename_i hc
          obtain ⟨c1, c2⟩ := hc
          have hp0 := hp 0 p (i, x) rfl rfl
          simp only [Option.map_eq_some_iff] at hp0
          obtain ⟨y, hy, e⟩ := hp0
          cases e
          have hv1 := toD_one (ev_rep h hy) hv
          obtain ⟨r1, r2, r3⟩ := ih (by simpa using hl) (fun j p' q' h1 h2 => hp (j + 1) p' q' (by simpa using h1) (by simpa using h2))
            (z := setAt z p.1 v) (fun x hx => (setAt_mem hx).elim (fun e => e ▸ ⟨c1, hv1⟩) (hz x)) hb
          refine ⟨?_, by rw [r2, setAt_len], r3⟩
          have hfl := flat_len (fun x hx => (hz x hx).1)
          have hle : p.1 * n + n ≤ z.length * n := by rw [← Nat.succ_mul]; exact Nat.mul_le_mul_right _ c2
          simp only [List.map_cons, bldD, hv]
          rw [if_pos ⟨c1, by rw [hfl]; exact hle⟩, flat_set v c1 (fun x hx => (hz x hx).1) _ c2]
          exact r1
        · cases hb
      · cases hb

theorem flat_rep {n len : Nat} {z : DV} (hz : z.cells.length = n) (hn : 0 < n) (m : Nat) : (flat (List.replicate len z))[m]? = if m < len * n then z.cells[m % n]? else none := by
  have hc : ∀ x ∈ List.replicate len z, x.cells.length = n := fun x hx => by rw [(List.mem_replicate.1 hx).2]; exact hz
  have e : m = m / n * n + m % n := by rw [Nat.mul_comm]; exact (Nat.div_add_mod m n).symm
  have hk := Nat.mod_lt m hn
  by_cases h : m < len * n
  · rw [if_pos h]
    have hj : m / n < len := (Nat.div_lt_iff_lt_mul hn).2 h
    conv => lhs; rw [e]
    rw [flat_get hc _ _ hk, List.getElem?_replicate, if_pos hj]; rfl
  · rw [if_neg h]
    apply List.getElem?_eq_none
    rw [flat_len hc]; simp; omega

/-- A row of zeros. -/
theorem zeros_rep {n len : Nat} {z : DV} {zc : Array Value} (hz : z.cells.length = n) (hn : 0 < n) (h : RepL g.ρ g.I w z.cells zc) :
    RepL g.ρ g.I w (flat (List.replicate len z)) ((Array.range (len * n)).map (zc[· % zc.size]!)) := by
  have hc : ∀ x ∈ List.replicate len z, x.cells.length = n := fun x hx => by rw [(List.mem_replicate.1 hx).2]; exact hz
  refine ⟨by rw [flat_len hc]; simp, ?_⟩
  intro j c v hj hv
  rw [flat_rep hz hn] at hj
  split at hj
  · rename_i hlt
    have hs : zc.size = n := by rw [h.1, hz]
    have hr : (Array.range (len * n))[j]? = some j := by simp [hlt]
    rw [Array.getElem?_map, hr] at hv
    cases hv
    have hk := Nat.mod_lt j hn
    rw [hs]
    refine h.2 (j % n) c _ hj ?_
    show zc[j % n]? = some zc[j % n]!
    rw [Array.getElem?_eq_getElem (by omega), getElem!_pos zc (j % n) (by omega)]
  · cases hj

theorem rep_row {n : Nat} {xs : List DV} {arr : Array Value} (hs : ∀ x ∈ xs, x.cells.length = n) (h : RepL g.ρ g.I w (flat xs) arr) :
    ∀ (j : Nat) (x : DV) (k : Nat) (c : DV) (v : Value), xs[j]? = some x → x.cells[k]? = some c → arr[j * n + k]? = some v → RepD g.ρ g.I w c v := by
  intro j x k c v hx hc hv
  have hk := (List.getElem?_eq_some_iff.1 hc).1
  rw [hs x (List.mem_of_getElem? hx)] at hk
  refine h.2 (j * n + k) c v ?_ hv
  rw [flat_get hs j k hk, hx]; exact hc

theorem snd_bsl (h : RS E g oT st a w) (hd : ∀ t, o.dst = some t → t < a.tmps.size) {t e : TypeId} {ps : Array (Nat × Operand)} {len n : Nat} {z : DV} {qs : List (Nat × XV)}
    (hz : zeroP E.P e = some z) (hu : E.P.underlying t = some (.slice e)) (hn : szP E.P e = some n) (hzn : z.cells.length = n) (hn0 : n ≠ 0) (hlen : len * n ≤ 16777216)
    (hq : allSome (fun (p : Nat × Operand) => (opnd p.2).map (p.1, ·)) ps.toList = some qs)
    (hop : o.op = .buildSlice t len ps) (hF : opF ⟨o.dst, .bsl z len qs, gd⟩ st = some st') : Res E (execOp a.eval o) g oT st.hp a w o.dst st' := by
  simp only [opF, Option.map_eq_some_iff] at hF
  obtain ⟨xs, hxs, rfl⟩ := hF
  obtain ⟨q1, q2⟩ := allSome_spec hq
  obtain ⟨zv, hz1, hz2⟩ := run_zero (w := w) hz
  obtain ⟨c1, c2, c3⟩ := cells_rep (ofC_rep hz2 g.ρ g.I w)
  rw [hzn] at hxs ⊢
  have hz0 : ∀ x ∈ List.replicate len z, x.cells.length = n ∧ ∀ c ∈ x.cells, c.one = true := fun x hx => by rw [(List.mem_replicate.1 hx).2]; exact ⟨hzn, c3⟩
  obtain ⟨b1, b2, b3⟩ := bslD_flat h q1 q2 hz0 hxs
  have hside : ∀ (j : Nat) (p : Nat × Operand) (x : Nat × Nat × XV), ps.toList[j]? = some p → (qs.map fun p => (p.1 * n, n, p.2))[j]? = some x →
      (fun i => some (i * n, n)) p.1 = some (x.1, x.2.1) ∧ opnd p.2 = some x.2.2 := by
    intro j p x hp hxj
    simp only [List.getElem?_map, Option.map_eq_some_iff] at hxj
    obtain ⟨q, hqj, rfl⟩ := hxj
    have e1 := q2 j p q hp hqj
    simp only [Option.map_eq_some_iff] at e1
    obtain ⟨y, hy, rfl⟩ := e1
    exact ⟨rfl, hy⟩
  have hz00 := zeros_rep (len := len) hzn (by omega) ⟨c1, c2⟩
  obtain ⟨arr, f1, f2, f3⟩ := fill_rep h (fun i => some (i * n, n)) ps.toList (qs.map fun p => (p.1 * n, n, p.2)) _ _ _ (by simp [q1]) hside hz00 (flat_one fun x hx => (hz0 x hx).2) b1
  have hxl : xs.length = len := by simpa using b2
  have hfl := flat_len (fun x hx => (b3 x hx).1)
  refine .fresh h o.dst n xs (w.alloc (.cells arr e)) len arr e (0, 0) hd ?_ (by simp) rfl rfl rfl (fun x hx => RowKit.Below.heap_alloc w _ x hx) (heap_alloc_new w _) (by rw [f2.1, hfl, hxl]) (by intros; omega) (by omega) b3
    (rep_row (fun x hx => (b3 x hx).1) f2)
  have hnl : ¬ (len * n > 2 ^ 24) := by omega
  have hr0 : ∀ f : Nat → Value, (Array.range 0).map f = #[] := fun f => by simp [Array.range]
  by_cases h0 : len * n = 0
  · have hf : Instr.fill (fun i => some (i * n, n)) #[] (ps.toList.map fun p => (p.1, a.eval p.2)) = some arr := by
      rw [← f1, h0, hr0]
    simp only [execOp, hop, Instr.buildSlice, Sem.run_bind, run_und hu, run_sz hn, Result.andThen_ok, if_neg hnl, if_pos h0, Array.toList_map, Sem.run_pure]
    simp only [h0, hr0, hf, Sem.run_bind, Sem.run_pure, newRow, run_newObj_alloc, Result.andThen_ok, hxl]
  · simp only [execOp, hop, Instr.buildSlice, Sem.run_bind, run_und hu, run_sz hn, hz1, Result.andThen_ok, if_neg hnl, if_neg h0, Array.toList_map, Sem.run_pure, f1, newRow, run_newObj_alloc, hxl]

theorem wrap64 {n : Int} (h0 : 0 ≤ n) (h : n ≤ 140737488355328) : IntKind.i64.wrap n = n := by rw [IntKind.wrap_i64]; omega

end
end Go.Px

