/- The abstract machine, a part of it: no statement of the claim's own. -/
import Derived.Test.YtcldjplopgmjgaaDoorPxD
import Derived.TacticsIn
import Derived.OrdersIn

/- What a call leaves behind: its world and its ghosts taken back into the caller's. -/
namespace Go.Px
section
variable {E : Env} {g : Gh} {oT : Nat → Option Nat} {st st' : St} {a : Act} {w : World} {o : Oper} {gd : Option (Nat × Bool)}

abbrev noT : Nat → Option Nat := fun _ => none

/-- What is left of the ghosts where no frame and no object is handed on. -/
def Gh.bare (g : Gh) : Gh := { ρ := g.ρ, fs := [], owM := fun _ _ => none, I := g.I }
/-- .. and where the objects are. -/
noncomputable def Gh.objs (g : Gh) : Gh := { ρ := g.ρ, fs := [], owM := fun x i => open Classical in if x ∈ g.ρ then g.owM x i else none, I := g.I }

theorem mine_bare {h : Option (List BObj)} (hh : h = none) {b : Nat} : ¬ Mine g.bare noT h b := by
  subst hh
  rintro (hb | ⟨x, i, hb⟩ | ⟨t, hb⟩)
  · simp [blks, Gh.bare] at hb
  · simp [Gh.bare] at hb
  · cases hb

theorem RelM.bare {U : List Frm} {H : Option (List BObj)} (h : RelM E g U H w) : RelM E g.bare [] none w := by
  refine ⟨h.below, rfl, (fun os e => by cases e), ?_, by simp [blks, Gh.bare], by simp [blks, Gh.bare], (fun x i b e => by simp [Gh.bare] at e), (fun x i y j b e => by simp [Gh.bare] at e), h.lt⟩
  intro p o hp
  cases p with
  | fr r => cases r <;> simp [plGet, refGet] at hp
  | ob i => simp [plGet, hGet] at hp

theorem RelM.objs {U : List Frm} {os : List BObj} (h : RelM E g U (some os) w) : RelM E g.objs [] (some os) w := by
  have hnd := h.nd
  simp only [blks] at hnd
  refine ⟨h.below, rfl, h.hlen, ?_, ?_, ?_, ?_, ?_, h.lt⟩
  · intro p o hp
    cases p with
    | fr r => cases r <;> simp [plGet, refGet] at hp
    | ob i =>
      obtain ⟨b, hb, hok⟩ := h.con (.ob i) o hp
      refine ⟨b, hb, hok.mono rfl (List.prefix_refl _) (fun _ _ h => h) (fun _ _ _ => rfl) (fun _ _ _ _ hx _ => hx) (fun i => ?_) (fun _ _ _ => ⟨rfl, fun _ h => h⟩)⟩
      simp [Gh.objs, List.mem_of_getElem? hb]
  · simpa [blks, Gh.objs] using hnd.sublist (List.sublist_append_left _ _)
  · intro b hb
    exact h.new b (by simp only [blks, Gh.objs, List.flatMap_nil, List.append_nil] at hb ⊢; exact List.mem_append_left _ hb)
  · intro x i b e
    simp only [Gh.objs] at e
    split at e
    · rename_i hx
      obtain ⟨a1, a2, a3, a4⟩ := h.own x i b e
      refine ⟨by simpa [blks, Gh.objs] using hx, fun hb => a2 ?_, a3, a4⟩
      simp only [blks, Gh.objs, List.flatMap_nil, List.append_nil] at hb ⊢; exact List.mem_append_left _ hb
    · cases e
  · intro x i y j b e1 e2
    simp only [Gh.objs] at e1 e2
    split at e1
    · split at e2
      · exact h.inj x i y j b e1 e2
      · cases e2
    · cases e1

/-- After a call that was handed data alone. -/
theorem RS.back1 (h : RS E g oT st a w) {g1 : Gh} {w' : World} {U' : List Frm} {H' : Option (List BObj)} (hR : RelM E g1 U' H' w') (hS : Stp g.bare noT none w g1 noT H' w') :
    RS E { g with I := g1.I } oT st a w' ∧ Stp g oT st.hp w { g with I := g1.I } oT st.hp w' ∧ g1.ρ = g.ρ := by
  have hfar : ∀ b, b < w.heap.size → w'.heap[b]? = w.heap[b]? ∧ ∀ k, g1.I b k → g.I b k := fun b hb => hS.far b hb (mine_bare rfl)
  have hw0 : E.w0.heap.size ≤ w.heap.size := h.m.below.size
  have how : ∀ x i b, g.owM x i = some b → w'.heap[b]? = w.heap[b]? ∧ ∀ k, g1.I b k → g.I b k := fun x i b e => hfar b (h.m.own x i b e).2.2.2
  refine ⟨h.grow w' g1.I hS.size hS.os hS.tape hS.output (fun x hx => (hfar x (by omega)).1) (fun b hb => ?_) how (fun t b hb => hfar b (h.on t b hb).2.2.2) hS.I hS.Ic hR.lt,
    Stp.grow hS.size hS.os hS.tape hS.output hS.I hS.Ic (fun b hb _ => hfar b hb) (fun b hb => .inl ?_), hS.ρn rfl⟩
  · obtain ⟨a1, a2, a3⟩ := h.m.new b hb
    exact ⟨(hfar b a2).1, fun k hk => a3 k ((hfar b a2).2 k hk)⟩
  · exact hb

/-- The ghosts after a call that was handed the objects. -/
noncomputable def Gh.with (g g1 : Gh) : Gh := { ρ := g1.ρ, fs := g.fs, owM := fun x i => open Classical in if x ∈ g1.ρ then g1.owM x i else g.owM x i, I := g1.I }

theorem mine_objs {os : List BObj} {b : Nat} (hb : Mine g.objs noT (some os) b) : b ∈ g.ρ ∨ ∃ x i, x ∈ g.ρ ∧ g.owM x i = some b := by
  rcases hb with hb | ⟨x, i, hb⟩ | ⟨t, hb⟩
  · exact .inl (by simpa [blks, Gh.objs] using hb)
  · simp only [Gh.objs] at hb
    split at hb
    · rename_i hx; exact .inr ⟨x, i, hx, hb⟩
    · cases hb
  · cases hb

theorem RS.back2 (h : RS E g oT st a w) {os : List BObj} (hos : st.hp = some os) {g1 : Gh} {w' : World} {U' : List Frm} {H' : Option (List BObj)} (hR : RelM E g1 U' H' w') (hS : Stp g.objs noT (some os) w g1 noT H' w')
    (hfs : g1.fs = []) : RS E (g.with g1) oT { st with hp := H', cp := rmO st.cp } a w' ∧ Stp g oT st.hp w (g.with g1) oT H' w' := by
  obtain ⟨os', rfl⟩ : ∃ os', H' = some os' := by
    have := hS.hs
    cases H' with
    | none => cases this
    | some x => exact ⟨x, rfl⟩
  have hm := h.m
  rw [hos] at hm
  have hnd := hm.nd
  simp only [blks] at hnd
  have hnd' := List.nodup_append.1 hnd
  have hfb : ∀ b, b ∈ (g.fs.flatMap fun f => f.map Prod.snd) → b ∈ blks g (some os) := fun b hb => List.mem_append_right _ hb
  have hρb : ∀ b, b ∈ g.ρ → b ∈ blks g (some os) := fun b hb => List.mem_append_left _ hb
  -- old blocks that the call may not write
  have hfar : ∀ b, b < w.heap.size → b ∉ g.ρ → (∀ x i, x ∈ g.ρ → g.owM x i ≠ some b) → w'.heap[b]? = w.heap[b]? ∧ ∀ k, g1.I b k → g.I b k := fun b hb h1 h2 =>
    hS.far b hb fun hmi => by
      rcases mine_objs hmi with h | ⟨x, i, hx, h⟩
      · exact h1 h
      · exact h2 x i hx h
  have hρ1 : ∀ b, b ∈ g1.ρ → b < w.heap.size → b ∈ g.ρ ∨ ∃ x i, x ∈ g.ρ ∧ g.owM x i = some b := fun b hb hlt => by
    rcases hS.mine b (.inl (List.mem_append_left _ hb)) with h | h
    · exact mine_objs h
    · omega
  have hρo : ∀ x i b, g1.owM x i = some b → b < w.heap.size → b ∈ g.ρ ∨ ∃ x i, x ∈ g.ρ ∧ g.owM x i = some b := fun x i b hb hlt => by
    rcases hS.mine b (.inr (.inl ⟨x, i, hb⟩)) with h | h
    · exact mine_objs h
    · omega
  have hpre : ∀ b, b ∈ g.ρ → b ∈ g1.ρ := fun b hb => hS.ρ.subset hb
  have hfr : ∀ b, b ∈ (g.fs.flatMap fun f => f.map Prod.snd) → b ∉ g.ρ ∧ (∀ x i, g.owM x i ≠ some b) ∧ b < w.heap.size ∧ b ∉ g1.ρ := fun b hb => by
    have h1 : b ∉ g.ρ := fun h => hnd'.2.2 b h b hb rfl
    have h2 : ∀ x i, g.owM x i ≠ some b := fun x i e => (hm.own x i b e).2.1 (hfb b hb)
    have h3 := (hm.new b (hfb b hb)).2.1
    refine ⟨h1, h2, h3, fun h => ?_⟩
    rcases hρ1 b h h3 with h | ⟨x, i, _, h⟩
    · exact h1 h
    · exact h2 x i h
  have hfarF : ∀ b, b ∈ (g.fs.flatMap fun f => f.map Prod.snd) → w'.heap[b]? = w.heap[b]? ∧ ∀ k, g1.I b k → g.I b k := fun b hb =>
    hfar b (hfr b hb).2.2.1 (hfr b hb).1 (fun x i _ => (hfr b hb).2.1 x i)
  have hown : ∀ x i b, x ∉ g1.ρ → g.owM x i = some b → x ∈ (g.fs.flatMap fun f => f.map Prod.snd) ∧ b ∉ g.ρ ∧ b ∉ (g.fs.flatMap fun f => f.map Prod.snd) ∧ E.w0.heap.size ≤ b ∧ b < w.heap.size ∧ (∀ y j, y ∈ g.ρ → g.owM y j ≠ some b) := fun x i b hx e => by
    obtain ⟨a1, a2, a3, a4⟩ := hm.own x i b e
    simp only [blks, List.mem_append, not_or] at a1 a2
    refine ⟨a1.resolve_left fun h => hx (hpre x h), a2.1, a2.2, a3, a4, fun y j hy e' => hx (hpre x ?_)⟩
    rw [(hm.inj x i y j b e e').1]; exact hy
  have hoTb : ∀ t b, oT t = some b → b ∉ g.ρ ∧ b ∉ (g.fs.flatMap fun f => f.map Prod.snd) ∧ (∀ x i, g.owM x i ≠ some b) ∧ E.w0.heap.size ≤ b ∧ b < w.heap.size := fun t b e => by
    obtain ⟨a1, a2, a3, a4⟩ := h.on t b e
    rw [hos] at a1
    simp only [blks, List.mem_append, not_or] at a1
    exact ⟨a1.1, a1.2, a2, a3, a4⟩
  have hM : RelM E (g.with g1) ({ st with hp := some os', cp := rmO st.cp } : St).frs (some os') w' := by
    refine ⟨hR.below, hm.len, hR.hlen, ?_, ?_, ?_, ?_, ?_, hR.lt⟩
    · intro p o hp
      cases p with
      | fr r =>
        obtain ⟨b, hb, hok⟩ := hm.con (.fr r) o hp
        have hbm := resB_mem hb
        refine ⟨b, hb, hok.mono (hfarF b hbm).1 hS.ρ hS.I hS.Ic (fun _ _ _ _ hx _ => hx) (fun i => ?_) (fun i c hc => ?_)⟩
        · simp [Gh.with, (hfr b hbm).2.2.2]
        · obtain ⟨_, b1, _, _, b4, b5⟩ := hown b i c (hfr b hbm).2.2.2 hc
          exact hfar c b4 b1 b5
      | ob i =>
        obtain ⟨b, hb, hok⟩ := hR.con (.ob i) o hp
        refine ⟨b, hb, hok.mono rfl (List.prefix_refl _) (fun _ _ h => h) (fun _ _ _ => rfl) (fun _ _ _ _ hx _ => hx) (fun j => ?_) (fun _ _ _ => ⟨rfl, fun _ h => h⟩)⟩
        simp [Gh.with, List.mem_of_getElem? hb]
    · show (g1.ρ ++ _).Nodup
      refine List.nodup_append.2 ⟨?_, hnd'.2.1, fun x hx y hy e => (hfr y hy).2.2.2 (e ▸ hx)⟩
      have := hR.nd
      simpa [blks, hfs] using this
    · intro b hb
      rcases List.mem_append.1 hb with hb | hb
      · exact hR.new b (List.mem_append_left _ hb)
      · obtain ⟨a1, a2, a3⟩ := hm.new b (hfb b hb)
        exact ⟨a1, Nat.lt_of_lt_of_le a2 hS.size, fun k hk => a3 k ((hfarF b hb).2 k hk)⟩
    · intro x i b e
      simp only [Gh.with] at e
      split at e
      · rename_i hx
        obtain ⟨a1, a2, a3, a4⟩ := hR.own x i b e
        refine ⟨List.mem_append_left _ hx, fun hb => ?_, a3, a4⟩
        rcases List.mem_append.1 hb with hb | hb
        · exact a2 (List.mem_append_left _ hb)
        · rcases hρo x i b e (hfr b hb).2.2.1 with h | ⟨y, j, _, h⟩
          · exact (hfr b hb).1 h
          · exact (hfr b hb).2.1 y j h
      · rename_i hx
        obtain ⟨b0, b1, b2, b3, b4, b5⟩ := hown x i b hx e
        refine ⟨List.mem_append_right _ b0, fun hb => ?_, b3, Nat.lt_of_lt_of_le b4 hS.size⟩
        rcases List.mem_append.1 hb with hb | hb
        · rcases hρ1 b hb b4 with h | ⟨y, j, hy, h⟩
          · exact b1 h
          · exact b5 y j hy h
        · exact b2 hb
    · intro x i y j b e1 e2
      simp only [Gh.with] at e1 e2
      split at e1
      · split at e2
        · exact hR.inj x i y j b e1 e2
        · rename_i hy
          obtain ⟨b0, b1, b2, b3, b4, b5⟩ := hown y j b hy e2
          rcases hρo x i b e1 b4 with h | ⟨z, k, hz, h⟩
          · exact absurd h b1
          · exact absurd h (b5 z k hz)
      · rename_i hx
        split at e2
        · obtain ⟨b0, b1, b2, b3, b4, b5⟩ := hown x i b hx e1
          rcases hρo y j b e2 b4 with h | ⟨z, k, hz, h⟩
          · exact absurd h b1
          · exact absurd h (b5 z k hz)
        · exact hm.inj x i y j b e1 e2
  refine ⟨⟨hM, ?_, ?_, ?_, h.oi, ?_, h.clT, h.clB, fun t r off hl => h.clC t r off (mem_rmO hl).1⟩, ⟨hS.size, hS.os, hS.tape, hS.output, hS.I, hS.Ic, ?_, ?_, hS.ρ, rfl, by rw [hos]; rfl, fun e => by rw [hos] at e; cases e⟩⟩
  · intro t
    exact (h.tm t).mono hS.ρ hS.I hS.Ic (fun _ _ hx _ => hx)
  · intro t sz xs e
    refine (h.ot t sz xs e).mono fun b hb => ?_
    obtain ⟨a1, a2, a3, a4, a5⟩ := hoTb t b hb
    exact hfar b a5 a1 (fun x i _ => a3 x i)
  · intro t b hb
    obtain ⟨a1, a2, a3, a4, a5⟩ := hoTb t b hb
    refine ⟨fun hbb => ?_, fun x i e => ?_, a4, Nat.lt_of_lt_of_le a5 hS.size⟩
    · rcases List.mem_append.1 hbb with hbb | hbb
      · rcases hρ1 b hbb a5 with h | ⟨y, j, hy, h⟩
        · exact a1 h
        · exact a3 y j h
      · exact a2 hbb
    · simp only [Gh.with] at e
      split at e
      · rcases hρo x i b e a5 with h | ⟨y, j, hy, h⟩
        · exact a1 h
        · exact a3 y j h
      · exact a3 x i e
  · intro t l hl
    obtain ⟨hl, hno⟩ := mem_rmO hl
    have hc := h.cp t l hl
    cases l with
    | t n => exact hc
    | c r off =>
      obtain ⟨b, hb, hcell⟩ := hc
      exact ⟨b, hb, (cell?_of (hfarF b (resB_mem hb)).1 off).trans hcell⟩
    | o o off => exact absurd rfl (hno o off)
  · intro b hb hnm
    rw [hos] at hnm
    refine hfar b hb (fun hh => hnm (.inl (hρb b hh))) (fun x i _ e => hnm (.inr (.inl ⟨x, i, e⟩)))
  · intro b hb
    rw [hos]
    have key : Mine g1 noT (some os') b → Mine g oT (some os) b ∨ w.heap.size ≤ b := fun hb => by
      rcases hS.mine b hb with h | h
      · rcases mine_objs h with h | ⟨x, i, _, h⟩
        · exact .inl (.inl (hρb b h))
        · exact .inl (.inr (.inl ⟨x, i, h⟩))
      · exact .inr h
    rcases hb with hb | ⟨x, i, hb⟩ | hb
    · rcases List.mem_append.1 hb with hb | hb
      · exact key (.inl (List.mem_append_left _ hb))
      · exact .inl (.inl (hfb b hb))
    · simp only [Gh.with] at hb
      split at hb
      · exact key (.inr (.inl ⟨x, i, hb⟩))
      · exact .inl (.inr (.inl ⟨x, i, hb⟩))
    · exact .inl (.inr (.inr hb))

/-- After a call that was handed all. -/
theorem RS.back3 (h : RS E g oT st a w) {g1 : Gh} {w' : World} {b0 : Frm} {u : List Frm} {H' : Option (List BObj)} (hR : RelM E g1 (b0 :: u) H' w') (hS : Stp g noT st.hp w g1 noT H' w')
    (hfs : g1.fs = g.fs) (hok : okSt { st with bx := b0, up := u, hp := H', cp := rmC st.cp } = true) :
    RS E g1 oT { st with bx := b0, up := u, hp := H', cp := rmC st.cp } a w' ∧ Stp g oT st.hp w g1 oT H' w' := by
  simp only [okSt, Bool.and_eq_true] at hok
  have hno : ∀ t b, oT t = some b → ¬ Mine g noT st.hp b ∧ b < w.heap.size := fun t b e => by
    obtain ⟨a1, a2, a3, a4⟩ := h.on t b e
    refine ⟨?_, a4⟩
    rintro (hb | ⟨x, i, hb⟩ | ⟨u, hb⟩)
    · exact a1 hb
    · exact a2 x i hb
    · cases hb
  have hnm : ∀ t b, oT t = some b → ¬ Mine g1 noT H' b := fun t b e hb => by
    rcases hS.mine b hb with h | h
    · exact (hno t b e).1 h
    · have := (hno t b e).2; omega
  refine ⟨⟨hR, ?_, ?_, ?_, h.oi, ?_, fun t s hs => tmOk_loc hok.1 t s hs, fun s cs hs c hc s' hl => bxOk_loc hok.2 s cs hs c hc s' hl, ?_⟩,
    ⟨hS.size, hS.os, hS.tape, hS.output, hS.I, hS.Ic, fun b hb hn => hS.far b hb fun hm => hn ?_, fun b hb => ?_, hS.ρ, by rw [hfs], hS.hs, hS.ρn⟩⟩
  · intro t
    rw [hfs]
    exact (h.tm t).mono hS.ρ hS.I hS.Ic (fun _ _ hx _ => hx)
  · intro t sz xs e
    exact (h.ot t sz xs e).mono fun b hb => hS.far b (hno t b hb).2 (hno t b hb).1
  · intro t b hb
    obtain ⟨a1, a2, a3, a4⟩ := h.on t b hb
    exact ⟨fun hh => hnm t b hb (.inl hh), fun x i e => hnm t b hb (.inr (.inl ⟨x, i, e⟩)), a3, Nat.lt_of_lt_of_le a4 hS.size⟩
  · intro t l hl
    obtain ⟨hl, n, hn⟩ := mem_rmC hl
    simp only at hn
    subst hn
    exact h.cp t _ hl
  · intro t r off hl
    obtain ⟨hl, n, hn⟩ := mem_rmC hl
    cases hn
  · rcases hm with hm | hm | ⟨t, hm⟩
    · exact .inl hm
    · exact .inr (.inl hm)
    · cases hm
  · rcases hb with hb | hb | hb
    · rcases hS.mine b (.inl hb) with h | h
      · rcases h with h | h | ⟨t, h⟩
        · exact .inl (.inl h)
        · exact .inl (.inr (.inl h))
        · cases h
      · exact .inr h
    · rcases hS.mine b (.inr (.inl hb)) with h | h
      · rcases h with h | h | ⟨t, h⟩
        · exact .inl (.inl h)
        · exact .inl (.inr (.inl h))
        · cases h
      · exact .inr h
    · exact .inl (.inr (.inr hb))

end
end Go.Px

/- Regions in their own order. -/
namespace Go.Px
section
variable {E : Env} {g : Gh} {oT : Nat → Option Nat} {st st' : St} {a : Act} {w : World} {o : Oper} {gd : Option (Nat × Bool)}

/-- Which fence does not matter: it lets all in. -/
structure FOk (P : Program) (F : Fence) : Prop where
  fn : ∀ f, F.fn f
  dp : F.depth = none
  calls : ∀ {n : Nat} {f : FuncId} {args : Array Value} {w : World} {R : Ending → World → Prop}, Calls P f args w R → CallsIn F n P f args w R

theorem FOk.wide (P : Program) : FOk P Fence.wide := ⟨fun _ => trivial, rfl, fun h => callsIn_wide.2 h⟩

def XK.isCall : XK → Bool
  | .call _ _ => true
  | _ => false

theorem compBin_nc (P : Program) (op : BinOp) (t : TypeId) (x y : XV) : (compBin P op t x y).isCall = false := by
  unfold compBin; split
  · rfl
  · rfl
  · split
    · split <;> rfl
    · rfl

theorem compConv_nc (P : Program) (s t : TypeId) (x : XV) : (compConv P s t x).isCall = false := by
  unfold compConv; split
  · rfl
  · rfl
  · split <;> rfl
  · split <;> rfl
  · rfl

theorem compBuiltin_nc (P : Program) (b : Builtin) (ts : Array TypeId) (l : List XV) : (compBuiltin P b ts l).isCall = false := by
  unfold compBuiltin
  repeat' split
  all_goals rfl

theorem compH_call {P : Program} {h : Bool} {o : Oper} (hc : (compH P h o).isCall = true) :
    ∃ fo f args as ts, o.op = .call { callee := .value fo, args := args, argTypes := ts } ∧ opnd fo = some f ∧ allSome opnd args.toList = some as ∧ compH P h o = .call f as := by
  have key : ∀ k : XK, k.isCall = false → k.isCall = true → False := fun k h1 h2 => by rw [h1] at h2; cases h2
  cases ho : o.op with
  | call c =>
    obtain ⟨callee, args, ts⟩ := c
    cases callee with
    | value fo =>
      simp only [compH, ho] at hc ⊢
      split at hc
      · rename_i f as e1 e2
        exact ⟨fo, f, args, as, ts, rfl, e1, e2, by first | rfl | simp only [e1, e2]⟩
      · cases hc
    | builtin b =>
      exfalso
      simp only [compH, ho] at hc
      split at hc
      · exact key _ (compBuiltin_nc _ _ _ _) hc
      · cases hc
    | invoke r n => exfalso; simp only [compH, ho] at hc; cases hc
  | _ =>
    exfalso
    simp only [compH, ho] at hc
    revert hc
    repeat' split
    all_goals first
      | (intro h; cases h; done)
      | (intro _; contradiction)
      | exact key _ (compBin_nc _ _ _ _ _)
      | exact key _ (compConv_nc _ _ _ _)

/-! ### A call -/

theorem run_callFunc {P : Program} {f : FuncId} (h : HasF P f) (args : Array Value) (w : World) : (callFunc f args).run P w = .ok (.enter f args) w := by
  obtain ⟨fn, h1, h2, h3⟩ := h
  simp only [callFunc, Sem.run_bind, run_program, Result.andThen_ok, h1, h2, h3, Bool.false_eq_true, if_false, Sem.run_pure]

theorem lift_rep {ρ : List Nat} {I : Nat → Nat → Prop} {w : World} {fs : List (List (Nat × Nat))} {c : AV} {v : Value} (h : RepA ρ I w fs c v) (f : List (Nat × Nat)) : RepA ρ I w (f :: fs) c.lift v := by
  have hL : ∀ (cs : List AV) (j : Nat), (AV.liftL cs)[j]? = (cs[j]?).map AV.lift := by
    intro cs
    induction cs with
    | nil => intro j; rfl
    | cons a l ih => intro j; cases j with
      | zero => rfl
      | succ j => exact ih j
  have hN : ∀ (cs : List AV), (AV.liftL cs).length = cs.length := by
    intro cs
    induction cs with
    | nil => rfl
    | cons a l ih => simp [AV.liftL, ih]
  induction h with
  | d h => exact .d h
  | os h => exact .os h
  | bp off h => exact .bp off (by exact h)
  | mb h => exact .mb (by exact h)
  | it h => exact .it (by exact h)
  | fn hl _ ih =>
    simp only [AV.lift]
    refine .fn (by rw [hN]; exact hl) fun j c v hj hv => ?_
    rw [hL, Option.map_eq_some_iff] at hj
    obtain ⟨c', hc, rfl⟩ := hj
    exact ih j c' v hc hv
  | tup hl _ ih =>
    simp only [AV.lift]
    refine .tup (by rw [hN]; exact hl) fun j c v hj hv => ?_
    rw [hL, Option.map_eq_some_iff] at hj
    obtain ⟨c', hc, rfl⟩ := hj
    exact ih j c' v hc hv
  | dead x => exact .dead x

/-- A call, from its contract: with the arguments' values. -/
theorem call_core (h : RS E g oT st a w) (d : Option Nat) (hd : ∀ t, d = some t → t < a.tmps.size) {f : FuncId} {as : List AV} {vs : Array Value} (hlen : vs.size = as.length)
    (has : ∀ (j : Nat) c v, as[j]? = some c → vs[j]? = some v → RepA g.ρ g.I w g.fs c v) {K : St → Prop} (hX : CallK E st d f as K) :
    HasF E.P f ∧ Calls E.P f vs w fun e w' => ∃ v g' oT' s', e = .returned v ∧ RS E g' oT' s' (a.put d v) w' ∧ Stp g oT st.hp w g' oT' s'.hp w' ∧ K s' := by
  have hput : ∀ {g1 : Gh} {s1 : St} {w' : World} {r : AV} {v : Value}, RS E g1 oT s1 a w' → Stp g oT st.hp w g1 oT s1.hp w' → RepA g1.ρ g1.I w' [] r v → r.resOk = true → K (s1.put d r) →
      ∃ g' oT' s', RS E g' oT' s' (a.put d v) w' ∧ Stp g oT st.hp w g' oT' s'.hp w' ∧ K s' := by
    intro g1 s1 w' r v h1 h2 h3 h4 h5
    refine ⟨g1, _, _, h1.put d r v none hd (h3.fs_free _) (fun s hs => absurd hs (h3.no_loc s)) (fun sz xs e => by subst e; cases h4) (by simp), h2.trans ?_, h5⟩
    have e : (s1.put d r).hp = s1.hp := by cases d <;> rfl
    rw [e]
    refine Stp.same (fun b hb => ?_) rfl
    rcases mine_put hb with h | h
    · exact .inl h
    · cases h
  rcases hX with hX | hX
  · split at hX
    · rename_i ds hds
      obtain ⟨e1, e2⟩ := toDL_spec hds
      have hds' : vs.size = (ds.map AV.d).length := by rw [List.length_map, e1]; exact hlen
      have hda : ∀ {g1 : Gh}, g1.ρ = g.ρ → g1.I = g.I → ∀ (j : Nat) c v, (ds.map AV.d)[j]? = some c → vs[j]? = some v → RepA g1.ρ g1.I w ([] :: g1.fs) c v := by
        intro g1 h1 h2 j c v hj hv
        rw [List.getElem?_map, Option.map_eq_some_iff] at hj
        obtain ⟨x, hx, rfl⟩ := hj
        have hlt : j < as.length := by rw [← e1]; exact (List.getElem?_eq_some_iff.1 hx).1
        have ha := List.getElem?_eq_getElem hlt
        rw [h1, h2]
        exact .d (toD_rep (has j _ v ha hv) (e2 j _ _ ha hx))
      rcases hX with ⟨hf, hX⟩ | ⟨hf, hX⟩
      · refine ⟨hf, (hX g.bare w vs h.m.bare hds' (hda rfl rfl)).mono fun e w' he => ?_⟩
        obtain ⟨v, r, U', H', g1, rfl, hR, hS, hfs, hr, hrok, hQ⟩ := he
        obtain ⟨hR1, hS1, hρ⟩ := h.back1 hR hS
        obtain ⟨g', oT', s', q1, q2, q3⟩ := hput hR1 hS1 (by simpa only [hρ] using hr) hrok hQ
        exact ⟨v, g', oT', s', rfl, q1, q2, q3⟩
      · cases hos : st.hp with
        | none =>
          rw [hos] at hX
          refine ⟨hf, (hX g.bare w vs h.m.bare hds' (hda rfl rfl)).mono fun e w' he => ?_⟩
          obtain ⟨v, r, U', H', g1, rfl, hR, hS, hfs, hr, hrok, hQ⟩ := he
          obtain ⟨hR1, hS1, hρ⟩ := h.back1 hR hS
          have hH : H' = none := by
            have := hS.hs
            cases H' with
            | none => rfl
            | some x => cases this
          subst hH
          have hR2 : RS E { g with I := g1.I } oT { st with hp := none, cp := rmO st.cp } a w' := by
            have e : ({ st with hp := none, cp := rmO st.cp } : St) = { st with cp := rmO st.cp } := by rw [← hos]
            rw [e]
            exact ⟨hR1.m, hR1.tm, hR1.ot, hR1.on, hR1.oi, fun t l hl => hR1.cp t l (mem_rmO hl).1, hR1.clT, hR1.clB, fun t r off hl => hR1.clC t r off (mem_rmO hl).1⟩
          rw [← hos]
          obtain ⟨g', oT', s', q1, q2, q3⟩ := hput hR2 (by simpa only [hos] using hS1) (by simpa only [hρ] using hr) hrok hQ
          exact ⟨v, g', oT', s', rfl, q1, q2, q3⟩
        | some os =>
          rw [hos] at hX
          have hm := h.m
          rw [hos] at hm
          refine ⟨hf, (hX g.objs w vs hm.objs hds' (hda rfl rfl)).mono fun e w' he => ?_⟩
          obtain ⟨v, r, U', H', g1, rfl, hR, hS, hfs, hr, hrok, hQ⟩ := he
          obtain ⟨hR1, hS1⟩ := h.back2 hos hR hS hfs
          rw [← hos]
          obtain ⟨g', oT', s', q1, q2, q3⟩ := hput hR1 hS1 hr hrok hQ
          exact ⟨v, g', oT', s', rfl, q1, q2, q3⟩
    · exact hX.elim
  · obtain ⟨hf, hX⟩ := hX
    refine ⟨hf, (hX g w vs h.m (by rw [liftL_len]; exact hlen) fun j c v hj hv => ?_).mono fun e w' he => ?_⟩
    · rw [liftL_get, Option.map_eq_some_iff] at hj
      obtain ⟨x, hx, rfl⟩ := hj
      exact lift_rep (has j x v hx hv) []
    · obtain ⟨v, r, U', H', g1, rfl, hR, hS, hfs, hr, hrok, hQ⟩ := he
      cases U' with
      | nil => exact hQ.elim
      | cons b u =>
        obtain ⟨hok, hQ⟩ := hQ
        obtain ⟨hR1, hS1⟩ := h.back3 hR hS hfs hok
        obtain ⟨g', oT', s', q1, q2, q3⟩ := hput hR1 hS1 hr hrok hQ
        exact ⟨v, g', oT', s', rfl, q1, q2, q3⟩

theorem call_wp {F : Fence} (hF : FOk E.P F) {n : Nat} {next : Act → World → Prop} {Q : Exit → Act → World → Prop} (h : RS E g oT st a w) (hd : ∀ t, o.dst = some t → t < a.tmps.size)
    {fo : Operand} {args : Array Operand} {ts : Array TypeId} (hop : o.op = .call { callee := .value fo, args := args, argTypes := ts }) {f : XV} {as : List XV} (hf : opnd fo = some f) (has : allSome opnd args.toList = some as)
    {K : St → Prop} (hX : callX E st o.dst f as K)
    (hn : ∀ v w' g' oT' s', RS E g' oT' s' (a.put o.dst v) w' → Stp g oT st.hp w g' oT' s'.hp w' → K s' → next (a.put o.dst v) w') : o.wpIn F n E.P a w next Q := by
  obtain ⟨l1, l2⟩ := allSome_spec has
  have hcs : ∃ (fid : FuncId) (cs : List AV) (vs : Array Value), a.eval fo = .func (.func fid) #[] vs ∧ vs.size = cs.length ∧ (∀ (j : Nat) c v, cs[j]? = some c → vs[j]? = some v → RepA g.ρ g.I w g.fs c v) ∧
      CallK E st o.dst fid (as.map (ev st) ++ cs) K := by
    have hr := ev_rep h hf
    unfold callX at hX
    split at hX
    · rename_i fid cs e
      rw [e] at hr
      generalize a.eval fo = v at hr
      cases hr with
      | fn hl hh => exact ⟨fid, cs, _, rfl, hl, hh, hX⟩
    · rename_i fid ds e
      rw [e] at hr
      have hr := hr.d_inv
      generalize a.eval fo = v at hr
      cases hr with
      | fd hl hh =>
        refine ⟨fid, ds.map .d, _, rfl, by rw [List.length_map]; exact hl, fun j c v hj hv => ?_, hX⟩
        rw [List.getElem?_map, Option.map_eq_some_iff] at hj
        obtain ⟨x, hx, rfl⟩ := hj
        exact .d (hh j x v hx hv)
    · exact hX.elim
  obtain ⟨fid, cs, vs, ef, hl, hrep, hC⟩ := hcs
  have hsz : ((args.map a.eval) ++ vs).size = (as.map (ev st) ++ cs).length := by simp [hl, l1]
  have hall : ∀ (j : Nat) c v, (as.map (ev st) ++ cs)[j]? = some c → ((args.map a.eval) ++ vs)[j]? = some v → RepA g.ρ g.I w g.fs c v := by
    intro j c v hj hv
    by_cases hlt : j < as.length
    · rw [List.getElem?_append_left (by simpa using hlt), List.getElem?_map, Option.map_eq_some_iff] at hj
      rw [Array.getElem?_append_left (by simp; have : as.length = args.size := by simpa using l1
                                         omega), Array.getElem?_map, Option.map_eq_some_iff] at hv
      obtain ⟨x, hx, rfl⟩ := hj
      obtain ⟨y, hy, rfl⟩ := hv
      exact ev_rep h (l2 j y x (by simpa using hy) hx)
    · rw [List.getElem?_append_right (by simpa using hlt)] at hj
      rw [Array.getElem?_append_right (by simp; have : as.length = args.size := by simpa using l1
                                          omega)] at hv
      refine hrep (j - as.length) c v (by simpa using hj) ?_
      have : as.length = args.size := by simpa using l1
      rw [this]; simpa using hv
  obtain ⟨hfn, hcall⟩ := call_core h o.dst hd hsz hall hC
  refine ⟨fun f _ => hF.fn f, ?_⟩
  rw [Oper.semAt_eq _ _ _ (by intro c e; rw [hop] at e; cases e)]
  have hrun : (execOp a.eval o).run E.P w = .ok (.enter fid ((args.map a.eval) ++ vs)) w := by
    simp only [execOp, hop, resolve, ef, Deferred.ofValue, Sem.run_bind, Sem.run_pure, Result.andThen_ok, invoke, Array.empty_append, run_callFunc hfn]
  rw [hrun, Oper.uponIn_enter]
  refine ⟨fun e => (by rw [hF.dp] at e; cases e), hF.calls (hcall.mono fun e w' he => ?_)⟩
  obtain ⟨v, g', oT', s', rfl, q1, q2, q3⟩ := he
  exact hn v w' g' oT' s' q1 q2 q3

/-! ### A region -/

theorem compO_spec {P : Program} {esc : Nat → Bool} {ops : Array Oper} {o : Oper} {x : XO} (h : compO P esc ops o = some x) :
    ∃ gd, x = ⟨o.dst, compK P esc o, gd⟩ ∧ ((o.guard = none ∧ gd = none) ∨ ∃ j t want, o.guard = some (j, want) ∧ (ops[j]?).bind (·.dst) = some t ∧ gd = some (t, want)) := by
  unfold compO at h
  split at h
  · rename_i hg; cases h; exact ⟨none, rfl, .inl ⟨hg, rfl⟩⟩
  · rename_i j want hg
    split at h
    · rename_i t ht; cases h; exact ⟨some (t, want), rfl, .inr ⟨j, t, want, hg, ht, rfl⟩⟩
    · cases h

theorem not_defer {P : Program} {esc : Nat → Bool} {o : Oper} (h : compK P esc o ≠ .bad) (c : Call) : o.op ≠ .defer c := by
  intro e
  refine h ?_
  simp only [compK]
  unfold compH
  split <;> rename_i ho <;> first | rfl | (rw [e] at ho; cases ho)

theorem optK_some {x : Option St} {K : St → Prop} (h : optK x K) : ∃ s, x = some s ∧ K s := by
  cases x with
  | none => exact h.elim
  | some s => exact ⟨s, rfl, h⟩

/-- One operation that is wanted. -/
theorem opX_wp {F : Fence} (hF : FOk E.P F) {n : Nat} {next : Act → World → Prop} {Q : Exit → Act → World → Prop} (h : RS E g oT st a w) (hd : ∀ t, o.dst = some t → t < a.tmps.size) (esc : Nat → Bool)
    {K : St → Prop} (hX : opX E ⟨o.dst, compK E.P esc o, gd⟩ K st)
    (hn : ∀ v w' g' oT' s', RS E g' oT' s' (a.put o.dst v) w' → Stp g oT st.hp w g' oT' s'.hp w' → K s' → next (a.put o.dst v) w') : o.wpIn F n E.P a w next Q := by
  by_cases hc : (compK E.P esc o).isCall = true
  · obtain ⟨fo, f, args, as, ts, hop, hf, has, e⟩ := compH_call hc
    have e : compK E.P esc o = .call f as := e
    simp only [opX, e] at hX
    exact call_wp hF h hd hop hf has hX hn
  · have hX' : optK (opF ⟨o.dst, compK E.P esc o, gd⟩ st) K := by
      unfold opX at hX
      split at hX
      · rename_i f args e
        exact absurd (by rw [show compK E.P esc o = .call f args from e]; rfl) hc
      · exact hX
    obtain ⟨s, hs, hK⟩ := optK_some hX'
    refine op_wp hF.fn (fun c => not_defer (esc := esc) (P := E.P) (fun hb => ?_) c) (op_sound h hd esc hs) fun v w' g' oT' h1 h2 => hn v w' g' oT' s h1 h2 hK
    rw [hb, opF_bad] at hs; cases hs

theorem guardX_some {t : Nat} {want : Bool} {A B : Prop} (h : guardX st (some (t, want)) A B) : (∃ x, getT st.tm t = .d (.b x) ∧ (x = want → A) ∧ ((!x) = want → B)) ∨ ∃ l, getT st.tm t = .tup l ∧ B := by
  simp only [guardX] at h
  split at h
  · rename_i x e; exact .inl ⟨x, e, h⟩
  · rename_i l e; exact .inr ⟨l, e, h⟩
  · exact h.elim

theorem opsX_sound {F : Fence} (hF : FOk E.P F) {n : Nat} {ops : Array Oper} {esc : Nat → Bool} {Q : Exit → Act → World → Prop} {K : St → Prop} {g0 : Gh} {oT0 : Nat → Option Nat} {h0 : Option (List BObj)} {w0 : World} {N : Nat} {D : List Deferred}
    (hK : ∀ g' oT' s a' w', RS E g' oT' s a' w' → Stp g0 oT0 h0 w0 g' oT' s.hp w' → a'.tmps.size = N → a'.defers = D → K s → Q .normal a' w')
    (hops : ∀ o ∈ ops.toList, ∀ t, o.dst = some t → t < N) :
    ∀ (l : List Oper) (xl : List XO) (g : Gh) (oT : Nat → Option Nat) (st : St) (a : Act) (w : World), (∀ o ∈ l, o ∈ ops.toList) → allSome (compO E.P esc ops) l = some xl → RS E g oT st a w →
      Stp g0 oT0 h0 w0 g oT st.hp w → a.tmps.size = N → a.defers = D → opsX E xl K st → wpListIn F n E.P ops Q l a w := by
  intro l
  induction l with
  | nil =>
    intro xl g oT st a w _ hl hR hS hN hD hX
    cases hl
    exact hK g oT st a w hR hS hN hD hX
  | cons o l ih =>
    intro xl g oT st a w hmem hl hR hS hN hD hX
    simp only [allSome] at hl
    split at hl
    · rename_i x xs hx hxs
      cases hl
      obtain ⟨gd, rfl, hg⟩ := compO_spec hx
      have hod := hops o (hmem o List.mem_cons_self)
      have hd : ∀ t, o.dst = some t → t < a.tmps.size := by rw [hN]; exact hod
      have hmem' : ∀ o' ∈ l, o' ∈ ops.toList := fun o' ho => hmem o' (List.mem_cons_of_mem _ ho)
      have hput : ∀ v, (a.put o.dst v).defers = a.defers := fun v => by cases o.dst <;> rfl
      have hgo : ∀ {gd}, opX E ⟨o.dst, compK E.P esc o, gd⟩ (opsX E xs K) st → o.wpIn F n E.P a w (wpListIn F n E.P ops Q l) Q := fun hX =>
        opX_wp hF hR hd esc hX fun v w' g' oT' s' q1 q2 q3 => ih xs g' oT' s' _ w' hmem' hxs q1 (hS.trans q2) (by rw [Act.put_size]; exact hN) (by rw [hput]; exact hD) q3
      rcases hg with ⟨hg, rfl⟩ | ⟨j, t, want, hg, ht, rfl⟩
      · simp only [wpListIn, Region.wanted, hg, if_true]
        exact hgo hX
      · have hlt : t < a.tmps.size := by
          rw [hN]
          rw [Option.bind_eq_some_iff] at ht
          obtain ⟨o', ho', hdt⟩ := ht
          exact hops o' (by simpa using Array.mem_of_getElem? ho') t hdt
        have hskip : opsX E xs K (st.put o.dst (.tup [])) → (∀ f, o.about E.P w a.eval = some f → F.fn f) ∧ wpListIn F n E.P ops Q l (a.put o.dst undef) w := fun h2 => by
          refine ⟨fun f _ => hF.fn f, ?_⟩
          have hsk := hR.skip o.dst hd
          refine ih xs g _ _ _ w hmem' hxs hsk (hS.trans ?_) (by rw [Act.put_size]; exact hN) (by rw [hput]; exact hD) h2
          have e : (st.put o.dst (.tup [])).hp = st.hp := by cases o.dst <;> rfl
          rw [e]
          refine Stp.same (fun b hb => ?_) rfl
          rcases mine_put hb with h | h
          · exact .inl h
          · cases h
        rcases guardX_some hX with ⟨b, hb, h1, h2⟩ | ⟨tl, hb, h2⟩
        case inr =>
          have hy := guard_none hR ht hlt hb
          have hw : Region.wanted o (yielded ops a.tmps) = false := by simp only [Region.wanted, hg, hy]; rfl
          simp only [wpListIn, hw]
          rw [if_neg (by simp)]
          exact hskip h2
        have hy := guard_read hR ht hlt hb
        have hw : Region.wanted o (yielded ops a.tmps) = (b == want) := by
          simp only [Region.wanted, hg, hy]
          cases b <;> cases want <;> rfl
        simp only [wpListIn, hw]
        by_cases hbw : b = want
        · rw [if_pos (by simp [hbw])]
          exact hgo (h1 hbw)
        · rw [if_neg (by simp [hbw])]
          have hnb : (!b) = want := by cases b <;> cases want <;> simp_all
          exact hskip (h2 hnb)
    · cases hl

end
end Go.Px

/- Code. -/
namespace Go.Px

/-- What is asked of regions that draw their order. -/
def DrawOk (E : Env) : Prop :=
  ∀ {F : Fence}, FOk E.P F → ∀ {n : Nat} {ops : Array Oper} {esc : Nat → Bool} {Q : Exit → Act → World → Prop} {K : St → Prop} {g0 : Gh} {oT0 : Nat → Option Nat} {h0 : Option (List BObj)} {w0 : World} {N : Nat} {D : List Deferred},
    (∀ g' oT' s a' w', RS E g' oT' s a' w' → Stp g0 oT0 h0 w0 g' oT' s.hp w' → a'.tmps.size = N → a'.defers = D → K s → Q .normal a' w') →
    (∀ o ∈ ops.toList, ∀ t, o.dst = some t → t < N) →
    ∀ (xl : List XO) (id : Nat) (g : Gh) (oT : Nat → Option Nat) (st : St) (a : Act) (w : World), allSome (compO E.P esc ops) ops.toList = some xl → (backL 0 ops.toList && apartsL xl (unord ops) xl) = true → RS E g oT st a w →
      Stp g0 oT0 h0 w0 g oT st.hp w → a.tmps.size = N → a.defers = D → st.cp = [] → opsD E 0 (unord ops) xl [] K st → (Code.region id ops true).wpIn F n E.P Q a w

theorem dstOk_spec {P : Program} {esc : Nat → Bool} {ops : Array Oper} {N : Nat} : ∀ {l : List Oper} {xl : List XO}, allSome (compO P esc ops) l = some xl → dstOk N xl = true → ∀ o ∈ l, ∀ t, o.dst = some t → t < N := by
  intro l
  induction l with
  | nil => intro xl _ _ o ho; cases ho
  | cons o l ih =>
    intro xl h hd o' ho' t ht
    simp only [allSome] at h
    split at h
    · rename_i x xs hx hxs
      cases h
      simp only [dstOk, List.all_cons, Bool.and_eq_true] at hd
      rcases List.mem_cons.1 ho' with rfl | ho'
      · obtain ⟨gd, rfl, _⟩ := compO_spec hx
        have := hd.1
        simp only [ht] at this
        simpa using this
      · exact ih hxs hd.2 o' ho' t ht
    · cases h

theorem comp_bad {P : Program} {esc : Nat → Bool} {c : Code} {x : XC} (h : x = comp P esc c) : (∃ id ops dr, c = .region id ops dr) ∨ c = .skip ∨ (∃ a b, c = .seq a b) ∨ (∃ d a b, c = .cond d a b) ∨ (∃ id b, c = .block id b) ∨ (∃ b, c = .loop b) ∨ (∃ id, c = .exit id) ∨ c = .ret ∨ x = .bad := by
  cases c <;> simp_all [comp]

theorem least {p : Nat → Prop} (h : ∃ n, p n) : ∃ n, p n ∧ ∀ m, p m → n ≤ m := by
  obtain ⟨n, hn⟩ := h
  induction n using Nat.strongRecOn with
  | _ n ih =>
    by_cases hx : ∃ m, m < n ∧ p m
    · obtain ⟨m, hm, hp⟩ := hx; exact ih m hm hp
    · exact ⟨n, hn, fun m hm => Nat.le_of_not_lt fun hlt => hx ⟨m, hlt, hm⟩⟩

section
variable {E : Env}

theorem X_sound (hdr : DrawOk E) {F : Fence} (hF : FOk E.P F) {n : Nat} {esc : Nat → Bool} {g0 : Gh} {oT0 : Nat → Option Nat} {h0 : Option (List BObj)} {w0 : World} {N : Nat} {D : List Deferred} :
    ∀ (xc : XC) (c : Code), xc.er = comp E.P esc c → xc.lt N = true → ∀ (Qx : Exit → St → Prop) (Q : Exit → Act → World → Prop),
      (∀ e g' oT' s a' w', RS E g' oT' s a' w' → Stp g0 oT0 h0 w0 g' oT' s.hp w' → a'.tmps.size = N → a'.defers = D → Qx e s → Q e a' w') →
      ∀ (g : Gh) (oT : Nat → Option Nat) (st : St) (a : Act) (w : World), RS E g oT st a w → Stp g0 oT0 h0 w0 g oT st.hp w → a.tmps.size = N → a.defers = D → X E xc Qx st → c.wpIn F n E.P Q a w := by
  intro xc
  induction xc with
  | skip =>
    intro c hc _ Qx Q hQ g oT st a w hR hS hN hD hX
    cases c <;> simp only [XC.er, comp, reduceCtorEq] at hc
    · exact wpIn_skip (hQ _ _ _ _ _ _ hR hS hN hD hX)
    · split at hc
      · split at hc
        · split at hc <;> cases hc
        · cases hc
      · cases hc
    · split at hc <;> cases hc
  | reg ops =>
    intro c hc hlt Qx Q hQ g oT st a w hR hS hN hD hX
    cases c <;> simp only [XC.er, comp, reduceCtorEq] at hc
    · rename_i id ops' dr
      split at hc
      · rename_i os hos
        split at hc
        · split at hc <;> cases hc
        · rename_i hdr'
          cases hc
          have : dr = false := by simpa using hdr'
          subst this
          refine wpIn_region_list (opsX_sound hF (K := fun s => Qx .normal s.cut) (fun g' oT' s a' w' q1 q2 q3 q4 q5 => hQ _ _ _ _ _ _ q1.cut q2 q3 q4 q5) (dstOk_spec hos hlt) ops'.toList ops g oT st.cut a w (fun o ho => ho) hos hR.cut hS hN hD hX)
      · cases hc
    · split at hc <;> cases hc
  | draw un ops =>
    intro c hc hlt Qx Q hQ g oT st a w hR hS hN hD hX
    cases c <;> simp only [XC.er, comp, reduceCtorEq] at hc
    · rename_i id ops' dr
      split at hc
      · rename_i os hos
        split at hc
        · rename_i hdr'
          split at hc
          · rename_i htok
            cases hc
            subst hdr'
            exact hdr hF (K := fun s => Qx .normal s.cut) (fun g' oT' s a' w' q1 q2 q3 q4 q5 => hQ _ _ _ _ _ _ q1.cut q2 q3 q4 q5) (dstOk_spec hos hlt) ops id g oT st.cut a w hos htok hR.cut hS hN hD rfl hX
          · cases hc
        · cases hc
      · cases hc
    · split at hc <;> cases hc
  | seq x y ihx ihy =>
    intro c hc hlt Qx Q hQ g oT st a w hR hS hN hD hX
    simp only [XC.lt, Bool.and_eq_true] at hlt
    cases c <;> simp only [XC.er, comp, reduceCtorEq, XC.seq.injEq] at hc
    · split at hc
      · split at hc
        · split at hc <;> cases hc
        · cases hc
      · cases hc
    · rename_i c1 c2
      refine wpIn_seq (ihx c1 hc.1 hlt.1 _ _ ?_ g oT st a w hR hS hN hD hX)
      intro e g' oT' s a' w' q1 q2 q3 q4 q5
      cases e with
      | normal => exact ihy c2 hc.2 hlt.2 Qx Q hQ g' oT' s a' w' q1 q2 q3 q4 q5
      | _ => exact hQ _ _ _ _ _ _ q1 q2 q3 q4 q5
    · split at hc <;> cases hc
  | cond d x y ihx ihy =>
    intro c hc hlt Qx Q hQ g oT st a w hR hS hN hD hX
    simp only [XC.lt, Bool.and_eq_true] at hlt
    cases c <;> simp only [XC.er, comp, reduceCtorEq] at hc
    · split at hc
      · split at hc
        · split at hc <;> cases hc
        · cases hc
      · cases hc
    · rename_i co c1 c2
      split at hc
      · rename_i d' hd'
        simp only [XC.cond.injEq] at hc
        obtain ⟨rfl, h1, h2⟩ := hc
        simp only [X] at hX
        split at hX
        · rename_i t ht
          have hr := ev_rep hR hd'
          rw [ht] at hr
          have hr := hr.d_inv
          have hev : a.eval co = .bool t := by
            generalize a.eval co = v at hr
            cases hr; rfl
          exact wpIn_cond_split hev (fun e => ihx c1 h1 hlt.1 Qx Q hQ g oT st a w hR hS hN hD (hX.1 e)) (fun e => ihy c2 h2 hlt.2 Qx Q hQ g oT st a w hR hS hN hD (hX.2 e))
        · exact hX.elim
      · cases hc
  | block id x ih =>
    intro c hc hlt Qx Q hQ g oT st a w hR hS hN hD hX
    cases c <;> simp only [XC.er, comp, reduceCtorEq, XC.block.injEq] at hc
    · split at hc
      · split at hc
        · split at hc <;> cases hc
        · cases hc
      · cases hc
    · split at hc <;> cases hc
    · rename_i id' b
      obtain ⟨rfl, hb⟩ := hc
      refine wpIn_block (ih b hb hlt _ _ ?_ g oT st a w hR hS hN hD hX)
      intro e g' oT' s a' w' q1 q2 q3 q4 q5
      cases e with
      | exit j =>
        simp only [Exit.inBlock]
        simp only at q5
        split
        · rename_i e; rw [if_pos e] at q5; exact hQ _ _ _ _ _ _ q1 q2 q3 q4 q5
        · rename_i e; rw [if_neg e] at q5; exact hQ _ _ _ _ _ _ q1 q2 q3 q4 q5
      | _ => exact hQ _ _ _ _ _ _ q1 q2 q3 q4 q5
  | loop ts bs x ih =>
    intro c hc hlt Qx Q hQ g oT st a w hR hS hN hD hX
    cases c <;> simp only [XC.er, comp, reduceCtorEq, XC.loop.injEq] at hc
    · split at hc
      · split at hc
        · split at hc <;> cases hc
        · cases hc
      · cases hc
    · split at hc <;> cases hc
    · rename_i b
      have hb := hc.2.2
      obtain ⟨hok, J, ⟨m0, hJ0⟩, hJ⟩ := hX
      classical
      let I : Nat → Act → World → Prop := fun m a w => ∃ s g oT, J m s ∧ RS E g oT s a w ∧ Stp g0 oT0 h0 w0 g oT s.hp w ∧ a.tmps.size = N ∧ a.defers = D
      refine wpIn_loop (fun a w => ∃ m, I m a w) (fun a w => if h : ∃ m, I m a w then Classical.choose (least h) else 0) ⟨m0, _, g, oT, hJ0, hR.res ts bs hok, hS, hN, hD⟩ ?_
      intro a1 w1 hI
      have hfind := (Classical.choose_spec (least hI)).1
      obtain ⟨s, g1, oT1, hJs, r1, r2, r3, r4⟩ := hfind
      refine ih b hb hlt _ _ ?_ g1 oT1 s a1 w1 r1 r2 r3 r4 (hJ _ _ hJs)
      intro e g' oT' s' a' w' q1 q2 q3 q4 q5
      cases e with
      | normal =>
        obtain ⟨hok', m, hm, hJm⟩ := q5
        have hI' : ∃ m, I m a' w' := ⟨m, _, g', oT', hJm, q1.res ts bs hok', q2, q3, q4⟩
        refine ⟨hI', ?_⟩
        simp only [dif_pos hI', dif_pos hI]
        exact Nat.lt_of_le_of_lt ((Classical.choose_spec (least hI')).2 m ⟨_, g', oT', hJm, q1.res ts bs hok', q2, q3, q4⟩) hm
      | _ => exact hQ _ _ _ _ _ _ q1 q2 q3 q4 q5
  | kp ts bs x ih =>
    intro c hc hlt Qx Q hQ g oT st a w hR hS hN hD hX
    exact ih c hc hlt Qx Q hQ g oT _ a w (hR.res ts bs hX.1) hS hN hD hX.2
  | exit id =>
    intro c hc _ Qx Q hQ g oT st a w hR hS hN hD hX
    cases c <;> simp only [XC.er, comp, reduceCtorEq, XC.exit.injEq] at hc
    · split at hc
      · split at hc
        · split at hc <;> cases hc
        · cases hc
      · cases hc
    · split at hc <;> cases hc
    · subst hc
      exact wpIn_exit (hQ _ _ _ _ _ _ hR hS hN hD hX)
  | ret =>
    intro c hc _ Qx Q hQ g oT st a w hR hS hN hD hX
    cases c <;> simp only [XC.er, comp, reduceCtorEq] at hc
    · split at hc
      · split at hc
        · split at hc <;> cases hc
        · cases hc
      · cases hc
    · split at hc <;> cases hc
    · exact wpIn_ret (hQ _ _ _ _ _ _ hR hS hN hD hX)
  | bad => intro c hc _ Qx Q hQ g oT st a w hR hS hN hD hX; exact hX.elim

end
end Go.Px

/- Functions. -/
namespace Go.Px
section
variable {E : Env} {g : Gh} {oT : Nat → Option Nat} {st st' : St} {a : Act} {w : World}

/-- An argument leads into no box of the frame that is entered. -/
theorem RepA.no_own {ρ : List Nat} {I : Nat → Nat → Prop} {w : World} {fs : List (List (Nat × Nat))} {v : AV} {x : Value} (h : RepA ρ I w ([] :: fs) v x) (s : Nat) : ¬ HasLoc v s := by
  have key : ∀ (r : Ref) b, resB ([] :: fs) r = some b → s ∉ r.locs := by
    intro r b h hs
    cases r with
    | loc t => simp [resB, lkN] at h
    | up r => simp [Ref.locs] at hs
  generalize hf : ([] :: fs) = f0 at h
  induction h with
  | d h => exact not_hasLoc_d
  | os h => exact not_hasLoc_os
  | bp off h => subst hf; intro hh; cases hh with | bp off hs => exact key _ _ h hs
  | mb h => subst hf; intro hh; cases hh with | mb hs => exact key _ _ h hs
  | it h => subst hf; intro hh; cases hh with | it hs => exact key _ _ h hs
  | fn hl _ ih =>
    intro hh; cases hh with | fn hc h =>
    obtain ⟨j, hj⟩ := List.getElem?_of_mem hc
    have hlt := (List.getElem?_eq_some_iff.1 hj).1
    exact ih j _ _ hj (Array.getElem?_eq_getElem (by omega)) h
  | tup hl _ ih =>
    intro hh; cases hh with | tup hc h =>
    obtain ⟨j, hj⟩ := List.getElem?_of_mem hc
    have hlt := (List.getElem?_eq_some_iff.1 hj).1
    exact ih j _ _ hj (Array.getElem?_eq_getElem (by omega)) h
  | dead x => intro hh; cases hh

theorem getT_numT (l : List AV) : ∀ (k n : Nat), getT (numT k l) n = if k ≤ n then (match l[n - k]? with | some v => v.strip | none => .dead) else .dead := by
  induction l with
  | nil => intro k n; simp [numT, getT]
  | cons a l ih =>
    intro k n
    simp only [numT, getT]
    by_cases h : k = n
    · subst h; simp
    · rw [if_neg h, ih]
      by_cases h1 : k ≤ n
      · rw [if_pos h1, if_pos (by omega)]
        have : n - k = (n - (k + 1)) + 1 := by omega
        rw [this]; simp
      · rw [if_neg h1, if_neg (by omega)]

theorem blks_enter (g : Gh) (H : Option (List BObj)) : blks { g with fs := [] :: g.fs } H = blks g H := by
  simp [blks]

theorem mine_enter {H : Option (List BObj)} {b : Nat} : Mine { g with fs := [] :: g.fs } oT H b ↔ Mine g oT H b := by
  simp only [Mine, blks_enter]

theorem RS.enter {U : List Frm} {H : Option (List BObj)} (h : RelM E g U H w) {args : List AV} {vs : Array Value} (hl : vs.size = args.length) {k : Nat}
    (hr : ∀ (j : Nat) c v, args[j]? = some c → vs[j]? = some v → RepA g.ρ g.I w ([] :: g.fs) c v) :
    RS E { g with fs := [] :: g.fs } noT { tm := numT 0 args, bx := [], up := U, hp := H, cp := [] } { tmps := vs ++ Array.replicate k undef, defers := [] } w := by
  have hget : ∀ t, ∃ c, getT (numT 0 args) t = c.strip ∧ RepA g.ρ g.I w ([] :: g.fs) c ((vs ++ Array.replicate k undef).getD t undef) := by
    intro t
    rw [getT_numT]
    simp only [Nat.zero_le, if_true, Nat.sub_zero]
    cases hc : args[t]? with
    | none => exact ⟨.dead, rfl, .dead _⟩
    | some c =>
      have hlt := (List.getElem?_eq_some_iff.1 hc).1
      have hv : vs[t]? = some vs[t] := Array.getElem?_eq_getElem (by omega)
      refine ⟨c, rfl, ?_⟩
      have e : (vs ++ Array.replicate k undef).getD t undef = vs[t] := by
        rw [Array.getD_eq_getD_getElem?, Array.getElem?_append_left (by omega), hv]; rfl
      rw [e]
      exact hr t c _ hc hv
  refine ⟨⟨h.below, by simp [St.frs, h.len], h.hlen, ?_, by rw [blks_enter]; exact h.nd, fun b hb => h.new b (by rw [blks_enter] at hb; exact hb), fun x i b e => ?_, h.inj, h.lt⟩, ?_, ?_, (fun t b e => by cases e), (fun t u b e => by cases e), (fun t l hl => by cases hl), ?_, (fun s cs e => by cases e), (fun t r off hl => by cases hl)⟩
  · intro p o hp
    cases p with
    | fr r =>
      cases r with
      | loc s => cases hp
      | up r => exact h.con (.fr r) o hp
    | ob i => exact h.con (.ob i) o hp
  · rw [blks_enter]; exact h.own x i b e
  · intro t
    obtain ⟨c, e, hc⟩ := hget t
    show RepA _ _ _ _ (getT (numT 0 args) t) _
    rw [e]; exact hc.strip
  · intro t sz xs e
    obtain ⟨c, e', hc⟩ := hget t
    rw [e'] at e
    exact absurd e (strip_ne _ _ _)
  · intro t s hs
    obtain ⟨c, e, hc⟩ := hget t
    rw [show getT ({ tm := numT 0 args, bx := [], up := U, hp := H, cp := [] } : St).tm t = c.strip from e] at hs
    exact absurd hs.strip (hc.no_own s)

/-- The ghosts when a frame has been left. -/
noncomputable def Gh.leave (g : Gh) (fs : List (List (Nat × Nat))) (H : Option (List BObj)) : Gh :=
  { g with fs := fs, owM := fun x i => open Classical in if x ∈ blks { g with fs := fs } H then g.owM x i else none }

theorem RelM.leave {bx : Frm} {U : List Frm} {H : Option (List BObj)} (h : RelM E g (bx :: U) H w) {f : List (Nat × Nat)} {fs : List (List (Nat × Nat))} (hfs : g.fs = f :: fs) : RelM E (g.leave fs H) U H w := by
  have hsub : ∀ b, b ∈ blks { g with fs := fs } H → b ∈ blks g H := by
    intro b hb
    simp only [blks, List.mem_append] at hb ⊢
    rcases hb with hb | hb
    · exact .inl hb
    · rw [hfs]; exact .inr (by rw [List.flatMap_cons]; exact List.mem_append_right _ hb)
  have hb : blks (g.leave fs H) H = blks { g with fs := fs } H := rfl
  refine ⟨h.below, by have := h.len; rw [hfs] at this; simpa [Gh.leave] using this, h.hlen, ?_, ?_, fun b hb => h.new b (hsub b hb), ?_, ?_, h.lt⟩
  · intro p o hp
    have : ∃ b, plB (g.leave fs H) p = some b ∧ BoxOk w g (plFs (g.leave fs H).fs p) b o := by
      cases p with
      | fr r =>
        obtain ⟨b, hb, hok⟩ := h.con (.fr (.up r)) o hp
        simp only [plB, plFs, hfs, resB, lvl] at hb hok
        exact ⟨b, hb, hok⟩
      | ob i => exact h.con (.ob i) o hp
    obtain ⟨b, hb, hok⟩ := this
    have hbm : b ∈ blks { g with fs := fs } H := plB_mem (g := g.leave fs H) hp hb
    refine ⟨b, hb, hok.mono rfl (List.prefix_refl _) (fun _ _ h => h) (fun _ _ _ => rfl) (fun _ _ _ _ hx _ => hx) (fun i => ?_) (fun _ _ _ => ⟨rfl, fun _ h => h⟩)⟩
    simp only [Gh.leave, if_pos hbm]
  · rw [hb]
    refine List.Nodup.sublist ?_ h.nd
    simp only [blks, hfs, List.flatMap_cons]
    exact List.Sublist.append (List.Sublist.refl _) (List.sublist_append_right _ _)
  · intro x i b e
    simp only [Gh.leave] at e
    split at e
    · rename_i hx
      obtain ⟨a1, a2, a3, a4⟩ := h.own x i b e
      exact ⟨hx, fun hb => a2 (hsub b hb), a3, a4⟩
    · cases e
  · intro x i y j b e1 e2
    simp only [Gh.leave] at e1 e2
    split at e1
    · split at e2
      · exact h.inj x i y j b e1 e2
      · cases e2
    · cases e1

theorem mine_leave {f : List (Nat × Nat)} {fs : List (List (Nat × Nat))} (hfs : g.fs = f :: fs) {H : Option (List BObj)} {b : Nat} (hb : Mine (g.leave fs H) noT H b) : Mine g oT H b := by
  rcases hb with hb | ⟨x, i, hb⟩ | ⟨t, hb⟩
  · refine .inl ?_
    simp only [blks, Gh.leave, List.mem_append] at hb ⊢
    rcases hb with hb | hb
    · exact .inl hb
    · rw [hfs]; exact .inr (by rw [List.flatMap_cons]; exact List.mem_append_right _ hb)
  · simp only [Gh.leave] at hb
    split at hb
    · exact .inr (.inl ⟨x, i, hb⟩)
    · cases hb
  · cases hb

/-! ### What is returned -/

def resRead (tmps : Array Value) : ResultVar → Sem Value
  | .tmp t => pure (tmps.getD t undef)
  | .cell a t => do loadVar t (← asAddr (tmps.getD a undef))

theorem results_eq (fn : Func) (tmps : Array Value) : results fn tmps = (do let vs ← fn.results.mapM (resRead tmps); pure (if h : vs.size = 1 then vs[0] else .tuple vs)) := by
  have e : (fun x => resRead tmps x) = resRead tmps := rfl
  unfold results
  congr 1

theorem resOf_spec (h : RS E g oT st a w) {rv : ResultVar} {x : XR} (hc : compR E.P rv = some x) {v : DV} (hv : resOf st x = some v) :
    ∃ u, (resRead a.tmps rv).run E.P w = .ok u w ∧ RepD g.ρ g.I w v u := by
  cases rv with
  | tmp t =>
    cases hc
    simp only [resOf] at hv
    exact ⟨_, rfl, toD_rep (ev_rep h (o := .tmp t) rfl) hv⟩
  | cell c t =>
    simp only [compR] at hc
    split at hc
    · rename_i ag n hag hn
      split at hc
      · rename_i hcond
        cases hc
        simp only [resOf] at hv
        split at hv
        · rename_i cs hcs
          obtain ⟨b, k, us, hxe, h1, h2, h3, h4, h5⟩ := rd_spec h (ev_rep h (o := .tmp c) rfl) hcs
          have hxe : a.tmps.getD c undef = .pointer (some ⟨b, k, none⟩) := hxe
          have hload : (loadCells ⟨b, k, none⟩ n).run E.P w = .ok us.toArray w := by
            have := run_loadCells_list (P := E.P) w ⟨b, k, none⟩ us (fun j u hu => by rw [addr_add]; exact h3 j u hu)
            rwa [h2] at this
          split at hv
          · rename_i hagt
            simp only [Option.map_eq_some_iff] at hv
            obtain ⟨ds, hds, rfl⟩ := hv
            obtain ⟨d1, d2⟩ := toDL_spec hds
            refine ⟨.agg us.toArray, ?_, .agg (by simp [h2, d1, h1]) ?_ ?_⟩
            · simp only [resRead, hxe, asAddr, Sem.run_bind, Sem.run_pure, Result.andThen_ok, loadVar, run_agg hag, hagt, if_true, run_sz hn, hload]
            · intro c' hcm
              obtain ⟨j, hj⟩ := List.getElem?_of_mem hcm
              have hjl := (List.getElem?_eq_some_iff.1 hj).1
              have hcj : cs[j]? = some cs[j] := List.getElem?_eq_getElem (by omega)
              have huj : us[j]? = some us[j] := List.getElem?_eq_getElem (by omega)
              obtain ⟨r1, r2, _⟩ := h4 j _ _ hcj huj
              have := d2 j _ _ hcj hj
              cases hcase : cs[j] with
              | d v => rw [hcase] at this r2; cases this; exact r2
              | os sz xs => rw [hcase] at this; cases this; rfl
              | fn f vs =>
                rw [hcase] at this
                simp only [AV.toD] at this
                split at this
                · cases this; rfl
                · cases this
              | _ => rw [hcase] at this; cases this
            · intro j c' v hcj hv
              have hjl := (List.getElem?_eq_some_iff.1 hcj).1
              have hcs' : cs[j]? = some cs[j] := List.getElem?_eq_getElem (by omega)
              obtain ⟨r1, r2, _⟩ := h4 j _ _ hcs' (by simpa using hv)
              exact toD_rep r1 (d2 j _ _ hcs' hcj)
          · rename_i hagf
            have hn1 : n = 1 := hcond.resolve_left hagf
            subst hn1
            split at hv
            · rename_i c0
              obtain ⟨u0, rfl⟩ : ∃ u0, us = [u0] := List.length_eq_one_iff.1 h2
              obtain ⟨r1, _⟩ := h4 0 c0 u0 rfl rfl
              refine ⟨u0, ?_, toD_rep r1 hv⟩
              have hagf : ag = false := by simpa using hagf
              have hcell := h3 0 u0 rfl
              rw [Nat.add_zero] at hcell
              simp only [resRead, hxe, asAddr, Sem.run_bind, Sem.run_pure, Result.andThen_ok, loadVar, run_agg hag, hagf, Bool.false_eq_true, if_false, run_load, hcell]
            · cases hv
        · cases hv
      · cases hc
    · cases hc


/-- Some of a list's answers. -/
theorem mapM_res (h : RS E g oT st a w) : ∀ {l : List ResultVar} {xs : List XR} {ds : List DV}, allSome (compR E.P) l = some xs → allSome (resOf st) xs = some ds →
    ∃ us : List Value, (l.mapM (resRead a.tmps)).run E.P w = .ok us w ∧ us.length = ds.length ∧
      ∀ (j : Nat) d u, ds[j]? = some d → us[j]? = some u → RepD g.ρ g.I w d u := by
  intro l
  induction l with
  | nil =>
    intro xs ds h1 h2
    cases h1; cases h2
    exact ⟨[], rfl, rfl, fun j d u hd => by cases hd⟩
  | cons r l ih =>
    intro xs ds h1 h2
    simp only [allSome] at h1
    split at h1
    · rename_i x xs' hx hxs
      cases h1
      simp only [allSome] at h2
      split at h2
      · rename_i d ds' hd hds
        cases h2
        obtain ⟨u, hu, hru⟩ := resOf_spec h hx hd
        obtain ⟨us, hus, hl, hrs⟩ := ih hxs hds
        refine ⟨u :: us, ?_, by simp [hl], ?_⟩
        · rw [List.mapM_cons, Sem.run_bind, hu, Result.andThen_ok, Sem.run_bind, hus, Result.andThen_ok, Sem.run_pure]
        · intro j d' u' hj hj'
          cases j with
          | zero => cases hj; cases hj'; exact hru
          | succ j => exact hrs j d' u' hj hj'
      · cases h2
    · cases h1

theorem results_spec (h : RS E g oT st a w) {fn : Func} {xs : List XR} (hc : allSome (compR E.P) fn.results.toList = some xs) {Q : AV → Prop} (hQ : resK st xs Q) :
    ∃ v r, (results fn a.tmps).run E.P w = .ok v w ∧ RepA g.ρ g.I w [] r v ∧ r.resOk = true ∧ Q r := by
  unfold resK at hQ
  have go : ∀ ds, allSome (resOf st) xs = some ds → ∃ us : List Value, (results fn a.tmps).run E.P w = .ok (if h : us.toArray.size = 1 then us.toArray[0] else .tuple us.toArray) w ∧ us.length = ds.length ∧
      ∀ (j : Nat) d u, ds[j]? = some d → us[j]? = some u → RepD g.ρ g.I w d u := by
    intro ds hds
    obtain ⟨us, hus, hl, hr⟩ := mapM_res h hc hds
    refine ⟨us, ?_, hl, hr⟩
    have : fn.results = fn.results.toList.toArray := by simp
    rw [results_eq, this, List.mapM_toArray]
    simp only [Sem.run_bind, Sem.run_map, hus, Result.andThen_ok, Sem.run_pure]
  split at hQ
  · rename_i hds
    obtain ⟨us, h1, h2, h3⟩ := go _ hds
    exact ⟨_, .dead, h1, .dead _, rfl, hQ⟩
  · rename_i d hds
    obtain ⟨us, h1, h2, h3⟩ := go _ hds
    obtain ⟨u, rfl⟩ : ∃ u, us = [u] := List.length_eq_one_iff.1 h2
    exact ⟨u, .d d, h1, .d (h3 0 d u rfl rfl), rfl, hQ⟩
  · rename_i ds hn1 hn2 hds
    obtain ⟨us, h1, h2, h3⟩ := go _ hds
    have hne : us.toArray.size ≠ 1 := by
      simp only [List.size_toArray, h2]
      intro e
      obtain ⟨d, rfl⟩ := List.length_eq_one_iff.1 e
      exact hn2 d rfl
    rw [dif_neg hne] at h1
    refine ⟨_, .tup (ds.map .d), h1, .tup (by simp [h2]) (fun j c v hj hv => ?_), rfl, hQ⟩
    rw [List.getElem?_map, Option.map_eq_some_iff] at hj
    obtain ⟨d, hd, rfl⟩ := hj
    exact .d (h3 j d v hd (by simpa using hv))
  · exact hQ.elim

theorem dstOk_mono {n m : Nat} (hle : n ≤ m) {l : List XO} (h : dstOk n l = true) : dstOk m l = true := by
  simp only [dstOk, List.all_eq_true] at h ⊢
  intro o ho
  have := h o ho
  split at this
  · rename_i t e; simp only [decide_eq_true_eq] at this ⊢; omega
  · simp_all

theorem lt_mono {n m : Nat} (hle : n ≤ m) : ∀ {x : XC}, x.lt n = true → x.lt m = true := by
  intro x
  induction x with
  | reg ops => exact dstOk_mono hle
  | draw un ops => exact dstOk_mono hle
  | seq a b iha ihb => intro h; simp only [XC.lt, Bool.and_eq_true] at h ⊢; exact ⟨iha h.1, ihb h.2⟩
  | cond c a b iha ihb => intro h; simp only [XC.lt, Bool.and_eq_true] at h ⊢; exact ⟨iha h.1, ihb h.2⟩
  | block i b ih => exact ih
  | loop t b x ih => exact ih
  | kp t b x ih => exact ih
  | _ => intro h; exact h

/-- A function, from its walk. -/
theorem F_sound (hdr : DrawOk E) {f : FuncId} {fn : Func} {esc : Nat → Bool} {x : XF} (hfn : E.P.funcs[f]? = some fn) (hname : (fn.name == "runtime.NumGoroutine") = false) (his : isF E.P esc fn x)
    {args : List AV} {U : List Frm} {H : Option (List BObj)} {Q : AV → List Frm → Option (List BObj) → Prop} (hX : FX E x args U H Q) : CA E f args U H Q := by
  obtain ⟨hc, hlt⟩ := his
  unfold compF at hc
  split at hc
  · rename_i c rs hb hrs
    simp only [Option.some.injEq, XF.er, XF.mk.injEq] at hc
    obtain ⟨e1, e2, e3⟩ := hc
    refine ⟨⟨fn, hfn, hname, by rw [hb]; rfl⟩, fun g w vs hR hl hr => ?_⟩
    have h0 := RS.enter (k := fn.ntmps - vs.size) hR hl hr
    refine callsIn_wide.1 (callsIn_of_wp (n := 0) hfn hb trivial ?_)
    have hle : x.n ≤ (vs ++ Array.replicate (fn.ntmps - vs.size) undef).size := by simp; omega
    refine X_sound hdr (FOk.wide E.P) x.body c e3.symm (lt_mono hle hlt) _ _ ?_ _ _ _ _ w h0 (Stp.refl _ _ _ _) rfl rfl hX
    intro e g' oT' s a' w' q1 q2 q3 q4 q5
    have hfin : (resK s x.res fun r => Q r s.up s.hp) → a'.defers = [] ∧ ∃ v, (results fn a'.tmps).run E.P w' = .ok v w' ∧ ∃ v' r U' H' g'', (Ending.returned v) = .returned v' ∧ RelM E g'' U' H' w' ∧ Stp g noT H w g'' noT H' w' ∧ g''.fs = g.fs ∧
        RepA g''.ρ g''.I w' [] r v' ∧ r.resOk = true ∧ Q r U' H' := by
      intro hres
      rw [← e2] at hres
      obtain ⟨v, r, hv, hrep, hrok, hQ⟩ := results_spec q1 hrs hres
      obtain ⟨f0, hf0⟩ : ∃ f0, g'.fs = f0 :: g.fs := by
        have h1 := q2.fs
        have h2 := q1.m.len
        simp only [List.tail_cons, St.frs, List.length_cons] at h1 h2
        cases hg : g'.fs with
        | nil => rw [hg] at h2; simp at h2
        | cons f0 r => rw [hg] at h1; simp only [List.tail_cons] at h1; exact ⟨f0, by rw [h1]⟩
      refine ⟨q4, v, hv, v, r, s.up, s.hp, g'.leave g.fs s.hp, rfl, q1.m.leave hf0, ⟨q2.size, q2.os, q2.tape, q2.output, q2.I, q2.Ic, fun b hb hn => q2.far b hb fun h => hn (mine_enter.1 h), fun b hb => ?_, q2.ρ, rfl, q2.hs, q2.ρn⟩, rfl, hrep, hrok, hQ⟩
      rcases q2.mine b (mine_leave hf0 hb) with h | h
      · exact .inl (mine_enter.1 h)
      · exact .inr h
    cases e with
    | normal => exact hfin q5
    | ret => exact hfin q5
    | _ => exact q5.elim
  · cases hc

end
end Go.Px

/- The abstract machine, run: what comes of a closed state is reckoned. -/
namespace Go.Px

abbrev CallF := FuncId → List AV → List Frm → Option (List BObj) → Option (AV × List Frm × Option (List BObj))
abbrev PrimF := FuncId → List DV → Option DV

/-- A call. -/
def evCall (call : CallF) (pr : PrimF) (st : St) (d : Option Nat) (f : FuncId) (as : List AV) : Option St :=
  match (match AV.toDL as with | some ds => pr f ds | none => none) with
  | some v => some (st.put d (.d v))
  | none => match call f (AV.liftL as) st.frs st.hp with
    | some (r, b :: u, H) =>
      let s : St := { st with bx := b, up := u, hp := H, cp := rmC st.cp }
      if okSt s then some (s.put d r) else none
    | _ => none

def evOp (call : CallF) (pr : PrimF) (o : XO) (st : St) : Option St :=
  match o.k with
  | .call f args => match ev st f with
    | .fn g cs => evCall call pr st o.dst g (args.map (ev st) ++ cs)
    | .d (.fd g ds) => evCall call pr st o.dst g (args.map (ev st) ++ ds.map .d)
    | _ => none
  | _ => opF o st

def evOps (call : CallF) (pr : PrimF) : List XO → St → Option St
  | [], st => some st
  | o :: l, st => match o.g with
    | none => match evOp call pr o st with | some s => evOps call pr l s | none => none
    | some (t, want) => match getT st.tm t with
      | .d (.b x) => if x = want then (match evOp call pr o st with | some s => evOps call pr l s | none => none) else evOps call pr l (st.put o.dst (.tup []))
      | .tup _ => evOps call pr l (st.put o.dst (.tup []))
      | _ => none

/-- A call in a region that draws its order. -/
def evCallD (call : CallF) (pr : PrimF) (st : St) (d : Option Nat) (ok : (List ALoc × List ALoc) → Bool) (f : FuncId) (as : List AV) : Option (St × (List ALoc × List ALoc)) :=
  match AV.toDL as with
  | none => none
  | some ds => match pr f ds with
    | some v => if ok ([], dstLoc d) then some (st.put d (.d v), ([], dstLoc d)) else none
    | none => match call f (ds.map .d) [] none with
      | some (v, _, _) => if ok ([], dstLoc d) then some (st.put d v, ([], dstLoc d)) else none
      | none => if ok ([.hp], dstLoc d ++ [.hp, .fct]) then (match call f (ds.map .d) [] st.hp with
        | some (v, _, H) => some ({ st with hp := H, cp := rmC st.cp }.put d v, ([.hp], dstLoc d ++ [.hp, .fct]))
        | none => none) else none

def evOpD (call : CallF) (pr : PrimF) (ok : (List ALoc × List ALoc) → Bool) (o : XO) (st : St) : Option (St × (List ALoc × List ALoc)) :=
  match o.k with
  | .call f args => match ev st f with
    | .fn g cs => evCallD call pr st o.dst ok g (args.map (ev st) ++ cs)
    | .d (.fd g ds) => evCallD call pr st o.dst ok g (args.map (ev st) ++ ds.map .d)
    | _ => none
  | _ => if ok (accOf st o) then (match opF o st with | some s => some (s, accOf st o) | none => none) else none

def evD (call : CallF) (pr : PrimF) : Nat → List (List Nat) → List XO → List (Nat × (List ALoc × List ALoc)) → St → Option St
  | _, _, [], _, st => some st
  | j, un, o :: l, ac, st =>
    let go := match evOpD call pr (okD un ac) o st with
      | some (s, a) => evD call pr (j + 1) un.tail l ((j, a) :: ac) s
      | none => none
    let no := if okD un ac ([], dstLoc o.dst) then evD call pr (j + 1) un.tail l ((j, ([], dstLoc o.dst)) :: ac) (st.put o.dst (.tup [])) else none
    match o.g with
    | none => go
    | some (t, want) => match getT st.tm t with
      | .d (.b x) => if x = want then go else no
      | .tup _ => no
      | _ => none

def resV (s : St) (l : List XR) : Option AV :=
  match allSome (resOf s) l with
  | some [] => some .dead
  | some [v] => some (.d v)
  | some vs => some (.tup (vs.map .d))
  | none => none

def evFin (x : XF) : Option (Exit × St) → Option (AV × List Frm × Option (List BObj))
  | some (.normal, s) => (match resV s x.res with | some r => some (r, s.up, s.hp) | none => none)
  | some (.ret, s) => (match resV s x.res with | some r => some (r, s.up, s.hp) | none => none)
  | _ => none

def tabGet : List (Nat × XF) → Nat → Option XF
  | [], _ => none
  | (k, x) :: l, n => if k = n then some x else tabGet l n

def evX (T : List (Nat × XF)) (pr : PrimF) : Nat → XC → St → Option (Exit × St)
  | 0, _, _ => none
  | n + 1, c, st =>
    let call : CallF := fun f as U H => match tabGet T f with
      | some x => evFin x (evX T pr n x.body { tm := numT 0 as, bx := [], up := U, hp := H, cp := [] })
      | none => none
    match c with
    | .skip => some (.normal, st)
    | .reg ops => (match evOps call pr ops st.cut with | some s => some (.normal, s.cut) | none => none)
    | .draw un ops => (match evD call pr 0 un ops [] st.cut with | some s => some (.normal, s.cut) | none => none)
    | .seq a b => (match evX T pr n a st with
      | some (.normal, s) => evX T pr n b s
      | r => r)
    | .cond c a b => (match ev st c with
      | .d (.b t) => if t then evX T pr n a st else evX T pr n b st
      | _ => none)
    | .block id b => (match evX T pr n b st with
      | some (.exit j, s) => if j = id then some (.normal, s) else some (.exit j, s)
      | r => r)
    | .loop ts bs b => if (st.res ts bs).ok then (match evX T pr n b (st.res ts bs) with
      | some (.normal, s) => evX T pr n (.loop ts bs b) s
      | r => r) else none
    | .kp ts bs b => if (st.res ts bs).ok then evX T pr n b (st.res ts bs) else none
    | .exit id => some (.exit id, st)
    | .ret => some (.ret, st)
    | .bad => none

def evF (T : List (Nat × XF)) (pr : PrimF) (n : Nat) (f : FuncId) (as : List AV) (U : List Frm) (H : Option (List BObj)) : Option (AV × List Frm × Option (List BObj)) :=
  match tabGet T f with
  | some x => evFin x (evX T pr n x.body { tm := numT 0 as, bx := [], up := U, hp := H, cp := [] })
  | none => none

/-- The table tells the program's functions. -/
def TabOk (E : Env) (T : List (Nat × XF)) : Prop :=
  ∀ p ∈ T, ∃ fn esc, E.P.funcs[p.1]? = some fn ∧ (fn.name == "runtime.NumGoroutine") = false ∧ isF E.P esc fn p.2

def PrimOk (E : Env) (pr : PrimF) : Prop :=
  ∀ f ds v, pr f ds = some v → CA E f (ds.map .d) [] none (fun r _ _ => r = .d v)

section
variable {E : Env}

theorem CA.mono {f : FuncId} {args : List AV} {U : List Frm} {H : Option (List BObj)} {Q Q' : AV → List Frm → Option (List BObj) → Prop} (h : CA E f args U H Q) (hq : ∀ r U' H', Q r U' H' → Q' r U' H') : CA E f args U H Q' :=
  ⟨h.1, fun g w vs a b c => (h.2 g w vs a b c).mono fun e w' he => by
    obtain ⟨v, r, U', H', g', h1, h2, h3, h4, h5, h6, h7⟩ := he
    exact ⟨v, r, U', H', g', h1, h2, h3, h4, h5, h6, hq _ _ _ h7⟩⟩

def CallOk (E : Env) (call : CallF) : Prop :=
  ∀ f as U H r U' H', call f as U H = some (r, U', H') → CA E f as U H (fun r1 U1 H1 => r1 = r ∧ U1 = U' ∧ H1 = H')

theorem evCall_sound {call : CallF} {pr : PrimF} (hc : CallOk E call) (hp : PrimOk E pr) {st s : St} {d : Option Nat} {f : FuncId} {as : List AV} (h : evCall call pr st d f as = some s) {K : St → Prop} (hK : K s) : CallK E st d f as K := by
  unfold evCall at h
  split at h
  · rename_i v hv
    split at hv
    · rename_i ds hds
      cases h
      refine .inl ?_
      rw [hds]
      exact .inl ((hp f ds v hv).mono fun r U' H' e => by subst e; exact hK)
    · cases hv
  · split at h
    · rename_i r b u H hcall
      simp only at h
      split at h
      · rename_i hok
        cases h
        refine .inr ((hc _ _ _ _ _ _ _ hcall).mono fun r' U' H' e => ?_)
        obtain ⟨rfl, rfl, rfl⟩ := e
        exact ⟨hok, hK⟩
      · cases h
    · cases h

theorem evOp_sound {call : CallF} {pr : PrimF} (hc : CallOk E call) (hp : PrimOk E pr) {st s : St} {o : XO} (h : evOp call pr o st = some s) {K : St → Prop} (hK : K s) : opX E o K st := by
  unfold evOp at h
  unfold opX
  split at h
  · rename_i f args e
    simp only [e, callX]
    split at h
    · rename_i g cs e2; simp only [e2]; exact evCall_sound hc hp h hK
    · rename_i g ds e2; simp only [e2]; exact evCall_sound hc hp h hK
    · cases h
  · rename_i hne
    split
    · rename_i f args e; exact absurd e (hne f args)
    · rw [h]; exact hK

theorem evOps_sound {call : CallF} {pr : PrimF} (hc : CallOk E call) (hp : PrimOk E pr) : ∀ (l : List XO) (st s : St), evOps call pr l st = some s → ∀ {K : St → Prop}, K s → opsX E l K st := by
  intro l
  induction l with
  | nil => intro st s h K hK; cases h; exact hK
  | cons o l ih =>
    intro st s h K hK
    simp only [evOps] at h
    simp only [opsX]
    cases hg : o.g with
    | none =>
      simp only [hg, guardX] at h ⊢
      split at h
      · rename_i s1 h1; exact evOp_sound hc hp h1 (ih _ _ h hK)
      · cases h
    | some p =>
      obtain ⟨t, want⟩ := p
      simp only [hg, guardX] at h ⊢
      split at h
      · rename_i x hx
        simp only [hx]
        split at h
        · rename_i e
          split at h
          · rename_i s1 h1
            refine ⟨fun _ => evOp_sound hc hp h1 (ih _ _ h hK), fun e' => ?_⟩
            rw [← e] at e'; cases x <;> cases e'
          · cases h
        · rename_i e
          exact ⟨fun e' => absurd e' e, fun _ => ih _ _ h hK⟩
      · rename_i tl hx
        simp only [hx]
        exact ih _ _ h hK
      · cases h

theorem evCallD_sound {call : CallF} {pr : PrimF} (hc : CallOk E call) (hp : PrimOk E pr) {st s : St} {d : Option Nat} {ok : (List ALoc × List ALoc) → Bool} {f : FuncId} {as : List AV} {a : List ALoc × List ALoc}
    (h : evCallD call pr st d ok f as = some (s, a)) {K : (List ALoc × List ALoc) → St → Prop} (hK : K a s) : callD E d ok K st f as := by
  unfold evCallD at h
  unfold callD
  split at h
  · cases h
  · rename_i ds hds
    simp only [hds]
    split at h
    · rename_i v hv
      split at h
      · rename_i hok
        cases h
        exact .inl ⟨hok, .d v, hp f ds v hv, hK⟩
      · cases h
    · split at h
      · rename_i v U' H' hcall
        split at h
        · rename_i hok
          cases h
          exact .inl ⟨hok, v, (hc _ _ _ _ _ _ _ hcall).mono fun _ _ _ e => e.1, hK⟩
        · cases h
      · split at h
        · rename_i hok
          split at h
          · rename_i v U' H' hcall
            cases h
            exact .inr (.inl ⟨hok, v, H', (hc _ _ _ _ _ _ _ hcall).mono fun _ _ _ e => ⟨e.1, e.2.2⟩, hK⟩)
          · cases h
        · cases h

theorem evOpD_sound {call : CallF} {pr : PrimF} (hc : CallOk E call) (hp : PrimOk E pr) {st s : St} {ok : (List ALoc × List ALoc) → Bool} {o : XO} {a : List ALoc × List ALoc} (h : evOpD call pr ok o st = some (s, a))
    {K : (List ALoc × List ALoc) → St → Prop} (hK : K a s) : opD E o ok K st := by
  unfold evOpD at h
  unfold opD
  split at h
  · rename_i f args e
    simp only [e]
    split at h
    · rename_i g cs e2
      simp only [e2]
      exact evCallD_sound hc hp h hK
    · rename_i g ds e2
      simp only [e2]
      exact evCallD_sound hc hp h hK
    · cases h
  · rename_i hne
    split at h
    · rename_i hok
      split at h
      · rename_i s1 h1
        cases h
        split
        · rename_i f args e; exact absurd e (hne f args)
        · rw [h1]; exact ⟨hok, hK⟩
      · cases h
    · cases h

theorem evD_sound {call : CallF} {pr : PrimF} (hc : CallOk E call) (hp : PrimOk E pr) : ∀ (l : List XO) (j : Nat) (un : List (List Nat)) (ac : List (Nat × (List ALoc × List ALoc))) (st s : St),
    evD call pr j un l ac st = some s → ∀ {K : St → Prop}, K s → opsD E j un l ac K st := by
  intro l
  induction l with
  | nil => intro j un ac st s h K hK; cases h; exact hK
  | cons o l ih =>
    intro j un ac st s h K hK
    simp only [evD] at h
    simp only [opsD]
    have go : ∀ {s}, (match evOpD call pr (okD un ac) o st with
      | some (s, a) => evD call pr (j + 1) un.tail l ((j, a) :: ac) s
      | none => none) = some s → ∀ {K : St → Prop}, K s → opD E o (okD un ac) (fun a s => opsD E (j + 1) un.tail l ((j, a) :: ac) K s) st := by
      intro s h K hK
      split at h
      · rename_i s1 a1 h1; exact evOpD_sound hc hp h1 (ih _ _ _ _ _ h hK)
      · cases h
    have no : ∀ {s}, (if okD un ac ([], dstLoc o.dst) then evD call pr (j + 1) un.tail l ((j, ([], dstLoc o.dst)) :: ac) (st.put o.dst (.tup [])) else none) = some s → ∀ {K : St → Prop}, K s →
        okD un ac ([], dstLoc o.dst) = true ∧ opsD E (j + 1) un.tail l ((j, ([], dstLoc o.dst)) :: ac) K (st.put o.dst (.tup [])) := by
      intro s h K hK
      split at h
      · rename_i hok; exact ⟨hok, ih _ _ _ _ _ h hK⟩
      · cases h
    cases hg : o.g with
    | none =>
      simp only [hg, guardX] at h ⊢
      exact go h hK
    | some p =>
      obtain ⟨t, want⟩ := p
      simp only [hg, guardX] at h ⊢
      split at h
      · rename_i x hx
        simp only [hx]
        split at h
        · rename_i e
          refine ⟨fun _ => go h hK, fun e' => ?_⟩
          rw [← e] at e'; cases x <;> cases e'
        · rename_i e
          exact ⟨fun e' => absurd e' e, fun _ => no h hK⟩
      · rename_i tl hx
        simp only [hx]
        exact no h hK
      · cases h

theorem resV_sound {s : St} {l : List XR} {r : AV} (h : resV s l = some r) {Q : AV → Prop} (hQ : Q r) : resK s l Q := by
  unfold resV at h
  unfold resK
  split at h
  · rename_i e; rw [e]; cases h; exact hQ
  · rename_i v e; rw [e]; cases h; exact hQ
  · rename_i vs h1 h2 e
    rw [e]
    cases h
    split
    · rename_i e'; cases e'; exact absurd rfl h1
    · rename_i v e'; cases e'; exact absurd rfl (h2 _)
    · rename_i vs' _ _ e'; cases e'; exact hQ
    · rename_i e'; cases e'
  · cases h

theorem tabGet_mem {T : List (Nat × XF)} {f : Nat} {x : XF} (h : tabGet T f = some x) : (f, x) ∈ T := by
  induction T with
  | nil => cases h
  | cons p l ih =>
    obtain ⟨k, y⟩ := p
    simp only [tabGet] at h
    split at h
    · rename_i e; subst e; cases h; exact List.mem_cons_self
    · exact List.mem_cons_of_mem _ (ih h)

theorem evFin_sound (hdr : DrawOk E) {T : List (Nat × XF)} (hT : TabOk E T) {f : FuncId} {x : XF} (hx : tabGet T f = some x) {as : List AV} {U : List Frm} {H : Option (List BObj)} {res : Option (Exit × St)}
    (hX : ∀ e s, res = some (e, s) → ∀ Q : Exit → St → Prop, Q e s → X E x.body Q { tm := numT 0 as, bx := [], up := U, hp := H, cp := [] })
    {r : AV} {U' : List Frm} {H' : Option (List BObj)} (h : evFin x res = some (r, U', H')) : CA E f as U H (fun r1 U1 H1 => r1 = r ∧ U1 = U' ∧ H1 = H') := by
  obtain ⟨fn, esc, h1, h2, h3⟩ := hT _ (tabGet_mem hx)
  refine F_sound hdr h1 h2 h3 ?_
  unfold FX
  unfold evFin at h
  split at h
  · rename_i s
    split at h
    · rename_i r' hr
      cases h
      exact hX _ _ rfl _ (resV_sound hr ⟨rfl, rfl, rfl⟩)
    · cases h
  · rename_i s
    split at h
    · rename_i r' hr
      cases h
      exact hX _ _ rfl _ (resV_sound hr ⟨rfl, rfl, rfl⟩)
    · cases h
  · cases h

theorem evX_sound (hdr : DrawOk E) {T : List (Nat × XF)} {pr : PrimF} (hT : TabOk E T) (hp : PrimOk E pr) : ∀ (n : Nat) (c : XC) (st : St) (e : Exit) (s : St), evX T pr n c st = some (e, s) → ∀ Q : Exit → St → Prop, Q e s → X E c Q st := by
  intro n
  induction n using Nat.strongRecOn with
  | _ n ih0 =>
  intro c st e s h Q hQ
  cases n with
  | zero => cases h
  | succ n =>
    have ih := ih0 n (Nat.lt_succ_self n)
    have hcall : CallOk E (fun f as U H => match tabGet T f with
      | some x => evFin x (evX T pr n x.body { tm := numT 0 as, bx := [], up := U, hp := H, cp := [] })
      | none => none) := by
      intro f as U H r U' H' hh
      simp only at hh
      split at hh
      · rename_i x hx
        exact evFin_sound hdr hT hx (fun e s he Q hQ => ih _ _ _ _ he Q hQ) hh
      · cases hh
    cases c with
    | skip => cases h; exact hQ
    | reg ops =>
      simp only [evX] at h
      split at h
      · rename_i s1 h1; cases h; exact evOps_sound hcall hp _ _ _ h1 (K := fun s => Q .normal s.cut) hQ
      · cases h
    | draw un ops =>
      simp only [evX] at h
      split at h
      · rename_i s1 h1; cases h; exact evD_sound hcall hp _ _ _ _ _ _ h1 (K := fun s => Q .normal s.cut) hQ
      · cases h
    | seq a b =>
      simp only [evX] at h
      simp only [X]
      split at h
      · rename_i s1 h1
        exact ih _ _ _ _ h1 _ (ih _ _ _ _ h Q hQ)
      · rename_i hne
        refine ih _ _ _ _ h _ ?_
        cases e with
        | normal => exact absurd h (hne s)
        | _ => exact hQ
    | cond d a b =>
      simp only [evX] at h
      simp only [X]
      split at h
      · rename_i t ht
        rw [ht]
        cases t with
        | true => exact ⟨fun _ => ih _ _ _ _ h Q hQ, fun e => (by cases e)⟩
        | false => exact ⟨fun e => (by cases e), fun _ => ih _ _ _ _ h Q hQ⟩
      · cases h
    | block id b =>
      simp only [evX] at h
      simp only [X]
      split at h
      · rename_i j s1 h1
        refine ih _ _ _ _ h1 _ ?_
        split at h
        · rename_i e1; cases h; simp only [e1, if_true]; exact hQ
        · rename_i e1; cases h; simp only [e1, if_false]; exact hQ
      · rename_i hne
        refine ih _ _ _ _ h _ ?_
        cases e with
        | exit j => exact absurd h (hne j s)
        | _ => exact hQ
    | loop ts bs b =>
      have hok : (st.res ts bs).ok = true := by
        simp only [evX] at h
        split at h
        · assumption
        · cases h
      simp only [X]
      refine ⟨hok, fun m s1 => ∃ s0, s1 = s0.res ts bs ∧ evX T pr m (.loop ts bs b) s0 = some (e, s) ∧ m ≤ n + 1, ⟨n + 1, st, rfl, h, Nat.le_refl _⟩, ?_⟩
      rintro m s1 ⟨s0, rfl, hm, hle⟩
      cases m with
      | zero => cases hm
      | succ m =>
        simp only [evX] at hm
        split at hm
        · rename_i hok0
          -- the body's evaluation, with what it gives at its fuel
          have key : ∀ e1 s1, evX T pr m b (s0.res ts bs) = some (e1, s1) → ∀ Q' : Exit → St → Prop, Q' e1 s1 → X E b Q' (s0.res ts bs) := by
            intro e1 s1 h1 Q' hQ'
            exact ih0 m (by omega) _ _ _ _ h1 Q' hQ'
          split at hm
          · rename_i s2 h2
            refine key _ _ h2 _ ?_
            have hok2 : (s2.res ts bs).ok = true := by
              cases m with
              | zero => cases hm
              | succ m =>
                simp only [evX] at hm
                split at hm
                · assumption
                · cases hm
            exact ⟨hok2, m, Nat.lt_succ_self m, s2, rfl, hm, by omega⟩
          · rename_i hne
            refine key _ _ hm _ ?_
            cases e with
            | normal => exact absurd hm (hne s)
            | _ => exact hQ
        · cases hm
    | kp ts bs b =>
      simp only [evX] at h
      simp only [X]
      split at h
      · rename_i hok; exact ⟨hok, ih _ _ _ _ h Q hQ⟩
      · cases h
    | exit id => cases h; exact hQ
    | ret => cases h; exact hQ
    | bad => cases h

end
end Go.Px

/- Data that name no object; a call that makes its own objects. -/
namespace Go.Px

mutual
def DV.pure : DV → Bool
  | .agg cs => DV.pureL cs
  | .sl _ xs => DV.pureL xs
  | .ep _ xs _ _ => DV.pureL xs
  | .fd _ cs => DV.pureL cs
  | .op _ _ => false
  | .mo _ => false
  | _ => true
def DV.pureL : List DV → Bool
  | [] => true
  | x :: l => x.pure && DV.pureL l
end

mutual
def AV.pure : AV → Bool
  | .d v => v.pure
  | .tup l => AV.pureL l
  | .dead => true
  | _ => false
def AV.pureL : List AV → Bool
  | [] => true
  | x :: l => x.pure && AV.pureL l
end

theorem pureL_get {l : List DV} (h : DV.pureL l = true) {j : Nat} {x : DV} (hj : l[j]? = some x) : x.pure = true := by
  induction l generalizing j with
  | nil => cases hj
  | cons a l ih =>
    simp only [DV.pureL, Bool.and_eq_true] at h
    cases j with
    | zero => cases hj; exact h.1
    | succ j => exact ih h.2 hj

theorem apureL_get {l : List AV} (h : AV.pureL l = true) {j : Nat} {x : AV} (hj : l[j]? = some x) : x.pure = true := by
  induction l generalizing j with
  | nil => cases hj
  | cons a l ih =>
    simp only [AV.pureL, Bool.and_eq_true] at h
    cases j with
    | zero => cases hj; exact h.1
    | succ j => exact ih h.2 hj

theorem cells_pure {x c : DV} (h : x.pure = true) {k : Nat} (hk : x.cells[k]? = some c) : c.pure = true := by
  cases x with
  | agg cs => simp only [DV.pure] at h; exact pureL_get h hk
  | _ =>
    simp only [DV.cells] at hk
    cases k with
    | zero => cases hk; exact h
    | succ k => simp at hk

theorem RepD.free {ρ ρ' : List Nat} {I : Nat → Nat → Prop} {w : World} {v : DV} {x : Value} (h : RepD ρ I w v x) (hp : v.pure = true) : RepD ρ' I w v x := by
  induction h with
  | b x => exact .b x
  | i k n => exact .i k n
  | s x => exact .s x
  | agg hl ho _ ih => exact .agg hl ho fun j c v hj hv => ih j c v hj hv (pureL_get (by simpa only [DV.pure] using hp) hj)
  | sl vs hcap hs hm _ ih =>
    simp only [DV.pure] at hp
    exact .sl vs hcap hs hm fun j x k c hj hk => ih j x k c hj hk (cells_pure (pureL_get hp hj) hk)
  | nsl => exact .nsl
  | np => exact .np
  | op off h => cases hp
  | ep off vs x hx hs ho hm _ ih =>
    simp only [DV.pure] at hp
    exact .ep off vs x hx hs ho hm fun k c hk => ih k c hk (cells_pure (pureL_get hp hx) hk)
  | nm => exact .nm
  | mo h => cases hp
  | nf => exact .nf
  | fd hl _ ih => exact .fd hl fun j c v hj hv => ih j c v hj hv (pureL_get (by simpa only [DV.pure] using hp) hj)

theorem RepA.free {ρ ρ' : List Nat} {I : Nat → Nat → Prop} {w : World} {fs : List (List (Nat × Nat))} {v : AV} {x : Value} (h : RepA ρ I w fs v x) (hp : v.pure = true) : RepA ρ' I w fs v x := by
  induction h with
  | d h => exact .d (h.free hp)
  | tup hl _ ih => exact .tup hl fun j c v hj hv => ih j c v hj hv (apureL_get (by simpa only [AV.pure] using hp) hj)
  | dead x => exact .dead x
  | _ => cases hp

section
variable {E : Env}

/-- A call that is handed no object may make its own. -/
theorem CA.fresh {f : FuncId} {ds : List DV} {Q : AV → List Frm → Option (List BObj) → Prop} (hp : DV.pureL ds = true)
    (h : CA E f (ds.map .d) [] (some []) (fun r _ _ => r.pure = true ∧ Q r [] none)) : CA E f (ds.map .d) [] none Q := by
  refine ⟨h.1, fun g w vs hR hl hr => ?_⟩
  have hfs : g.fs = [] := by
    have := hR.len
    cases hg : g.fs with
    | nil => rfl
    | cons a l => rw [hg] at this; cases this
  have h0 : RelM E { ρ := [], fs := [], owM := fun _ _ => none, I := g.I } [] (some []) w := by
    refine ⟨hR.below, rfl, (fun os e => by cases e; rfl), ?_, by simp [blks], by simp [blks], (fun x i b e => by cases e), (fun x i y j b e => by cases e), hR.lt⟩
    intro p o hp
    cases p with
    | fr r => cases r <;> simp [plGet, refGet] at hp
    | ob i => simp [plGet, hGet] at hp
  have hnm : ∀ b, ¬ Mine { ρ := [], fs := [], owM := fun _ _ => none, I := g.I } noT (some []) b := by
    rintro b (hb | ⟨x, i, hb⟩ | ⟨t, hb⟩)
    · simp [blks] at hb
    · cases hb
    · cases hb
  refine (h.2 _ w vs h0 hl fun j c v hj hv => ?_).mono fun e w' he => ?_
  · have := hr j c v hj hv
    rw [List.getElem?_map, Option.map_eq_some_iff] at hj
    obtain ⟨d, hd, rfl⟩ := hj
    cases this with | d h => exact .d (h.free (pureL_get hp hd))
  · obtain ⟨v, r, U', H', g1, he, hR1, hS, hfs1, hrep, hrok, hpure, hQ⟩ := he
    refine ⟨v, r, [], none, { ρ := g.ρ, fs := [], owM := fun _ _ => none, I := g1.I }, he, ?_, ⟨hS.size, hS.os, hS.tape, hS.output, hS.I, hS.Ic, fun b hb _ => hS.far b hb (hnm b), ?_, List.prefix_refl _, by rw [hfs], rfl, fun _ => rfl⟩, hfs.symm, hrep.free hpure, hrok, hQ⟩
    · refine ⟨hR1.below, rfl, (fun os e => by cases e), ?_, by simp [blks], by simp [blks], (fun x i b e => by cases e), (fun x i y j b e => by cases e), hR1.lt⟩
      intro p o hp
      cases p with
      | fr r => cases r <;> simp [plGet, refGet] at hp
      | ob i => simp [plGet, hGet] at hp
    · rintro b (hb | ⟨x, i, hb⟩ | ⟨t, hb⟩)
      · simp [blks] at hb
      · cases hb
      · cases hb

/-- What is reckoned of a function that is handed pure data. -/
theorem CA.reckoned (hdr : DrawOk E) {T : List (Nat × XF)} {pr : PrimF} (hT : TabOk E T) (hpr : PrimOk E pr) {n : Nat} {f : FuncId} {ds : List DV} {v : AV} {U' : List Frm} {H' : Option (List BObj)} (hp : DV.pureL ds = true)
    (h : evF T pr n f (ds.map .d) [] (some []) = some (v, U', H')) (hv : v.pure = true) : CA E f (ds.map .d) [] none (fun r _ _ => r = v) := by
  refine CA.fresh hp ?_
  unfold evF at h
  split at h
  · rename_i x hx
    exact (evFin_sound hdr hT hx (fun e s he Q hQ => evX_sound hdr hT hpr _ _ _ _ _ he Q hQ) h).mono fun r U1 H1 e => ⟨by rw [e.1]; exact hv, e.1⟩
  · cases h

end
end Go.Px

