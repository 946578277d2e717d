/- The abstract machine, a part of it: no statement of the claim's own. -/
import Derived.Test.YtcldjplopgmjgaaDoorPxC
import Derived.Laws.StructEq
import Derived.ChangeKeysEq
import Derived.WalkSpells

/- What one operation does: equality. -/
namespace Go.Px
section
variable {E : Env} {g : Gh} {oT : Nat → Option Nat} {st st' : St} {a : Act} {w : World} {o : Oper} {gd : Option (Nat × Bool)}

inductive EqC : Nat → Value → Value → Bool → Prop
  | b (x y : Bool) : EqC 0 (.bool x) (.bool y) (x == y)
  | i (k : IntKind) (x y : Int) : EqC 1 (.int k x) (.int k y) (x == y)
  | s (x y : ByteArray) : EqC 2 (.string x) (.string y) (x == y)

inductive EqL : List Nat → List Value → List Value → Bool → Prop
  | nil : EqL [] [] [] true
  | cons {k : Nat} {sh : List Nat} {u v : Value} {us vs : List Value} {a b : Bool} : EqC k u v a → EqL sh us vs b → EqL (k :: sh) (u :: us) (v :: vs) (a && b)

theorem EqL.len {sh : List Nat} {us vs : List Value} {r : Bool} (h : EqL sh us vs r) : us.length = sh.length ∧ vs.length = sh.length := by
  induction h with
  | nil => exact ⟨rfl, rfl⟩
  | cons _ _ ih => simp [ih]

theorem EqL.split : ∀ {s1 s2 : List Nat} {us vs : List Value} {r : Bool}, EqL (s1 ++ s2) us vs r →
    ∃ ua ub va vb a b, us = ua ++ ub ∧ vs = va ++ vb ∧ r = (a && b) ∧ EqL s1 ua va a ∧ EqL s2 ub vb b := by
  intro s1
  induction s1 with
  | nil => intro s2 us vs r h; exact ⟨[], us, [], vs, true, r, rfl, rfl, by simp, .nil, h⟩
  | cons k s1 ih =>
    intro s2 us vs r h
    cases h with | cons hc h =>
    obtain ⟨ua, ub, va, vb, a, b, rfl, rfl, rfl, h1, h2⟩ := ih h
    exact ⟨_ :: ua, ub, _ :: va, vb, _, b, rfl, rfl, by rw [Bool.and_assoc], .cons hc h1, h2⟩

/-- A part's value, by its cells. -/
def pv (P : Program) (t : TypeId) (us : List Value) : Value := match P.underlying t with
  | some (.struct _) | some (.array ..) => .agg us.toArray
  | _ => us.headD undef

theorem pv_agg {P : Program} {t : TypeId} (h : aggP P t = some true) (us : List Value) : pv P t us = .agg us.toArray := by
  unfold pv
  unfold aggP at h
  cases hu : P.underlying t with
  | none => simp [hu] at h
  | some d => rw [hu] at h; cases d <;> first | rfl | (simp at h)

theorem pv_sc {P : Program} {t : TypeId} (h : aggP P t = some false) (us : List Value) : pv P t us = us.headD undef := by
  unfold pv
  unfold aggP at h
  cases hu : P.underlying t with
  | none => simp [hu] at h
  | some d => rw [hu] at h; cases d <;> first | rfl | (simp at h)

theorem part_run (P : Program) (t : TypeId) (cs : List Value) (off n : Nat) (hn : szP P t = some n) (hd : (P.underlying t).isSome) (h1 : aggP P t = some true ∨ n = 1) (hl : off + n ≤ cs.length) (w : World) :
    (part t cs.toArray off).run P w = .ok (pv P t ((cs.drop off).take n)) w := by
  obtain ⟨ag, hag⟩ : ∃ ag, aggP P t = some ag := by
    obtain ⟨d, hd⟩ := Option.isSome_iff_exists.1 hd
    exact ⟨_, by rw [aggP, hd, Option.map_some]⟩
  unfold part
  simp only [Sem.run_bind, run_agg hag, Result.andThen_ok]
  cases ag with
  | true =>
    simp only [if_true, Sem.run_bind, run_sz hn, Result.andThen_ok, Sem.run_pure, pv_agg hag]
    congr 2
    apply Array.ext'
    simp only [Array.toList_extract, List.extract_eq_take_drop, Nat.add_sub_cancel_left]
  | false =>
    have hn1 : n = 1 := h1.resolve_left (by rw [hag]; simp)
    subst hn1
    have hlt : off < cs.length := by omega
    have e : ((cs.drop off).take 1).headD undef = cs[off] := by
      rw [List.drop_eq_getElem_cons hlt]; rfl
    simp only [Bool.false_eq_true, if_false, List.getElem?_toArray, List.getElem?_eq_getElem hlt, Sem.run_pure, pv_sc hag, e]

theorem foldl_none {α β : Type} (f : Option β → α → Option β) (hf : ∀ x, f none x = none) (l : List α) : l.foldl f none = none := by
  induction l with
  | nil => rfl
  | cons x l ih => rw [List.foldl_cons, hf, ih]

/-- The shape's type has that many cells. -/
theorem shP_sz {P : Program} {d : Nat} {t : TypeId} {sh : List Nat} (h : shP P d t = some sh) : szP P t = some sh.length ∧ (P.underlying t).isSome ∧ (aggP P t = some true ∨ sh.length = 1) := by
  cases d with
  | zero => cases h
  | succ d =>
    unfold shP at h
    split at h
    · rename_i hu; split at h
      · rename_i hs; cases h; exact ⟨hs, by rw [hu]; rfl, .inr rfl⟩
      · cases h
    · rename_i hu; split at h
      · rename_i hs; cases h; exact ⟨hs, by rw [hu]; rfl, .inr rfl⟩
      · cases h
    · rename_i hu; split at h
      · rename_i hs; cases h; exact ⟨hs, by rw [hu]; rfl, .inr rfl⟩
      · cases h
    · rename_i hu; split at h
      · cases h
      · split at h
        · split at h
          · rename_i hs; cases h; exact ⟨hs, by rw [hu]; rfl, .inl (by simp [aggP, hu])⟩
          · cases h
        · cases h
    · rename_i hu; split at h
      · split at h
        · rename_i hs; cases h; exact ⟨by rw [hs.2]; simp, by rw [hu]; rfl, .inl (by simp [aggP, hu])⟩
        · cases h
      · cases h
    · cases h

theorem drop_take_mid (l m r : List Value) (n : Nat) (h : m.length = n) : ((l ++ (m ++ r)).drop l.length).take n = m := by
  rw [List.drop_left, ← h, List.take_left]

/-- What flat values' equality tells. -/
theorem eq_flat (P : Program) : ∀ (d : Nat) (t : TypeId) (sh : List Nat), shP P d t = some sh → ∀ (D : Nat), d ≤ D → ∀ (us vs : List Value) (r : Bool), EqL sh us vs r → ∀ w : World,
    (Op.equalIn D t (pv P t us) (pv P t vs)).run P w = .ok r w := by
  intro d
  induction d with
  | zero => intro t sh h; cases h
  | succ d ih =>
    intro t sh h D hD us vs r hE w
    obtain ⟨D, rfl⟩ : ∃ D', D = D' + 1 := ⟨D - 1, by omega⟩
    have hDD : d ≤ D := by omega
    unfold shP at h
    split at h
    · rename_i hu; split at h
      · cases h
        cases hE with | cons hc hn =>
        cases hn; cases hc
        simp only [pv, hu, List.headD_cons, Bool.and_true]
        exact run_equalIn_bool' w D t _ _ hu
      · cases h
    · rename_i hu; split at h
      · cases h
        cases hE with | cons hc hn =>
        cases hn; cases hc
        simp only [pv, hu, List.headD_cons, Bool.and_true]
        exact run_equalIn_int w D t _ _ _ _ hu
      · cases h
    · rename_i hu; split at h
      · cases h
        cases hE with | cons hc hn =>
        cases hn; cases hc
        simp only [pv, hu, List.headD_cons, Bool.and_true]
        rw [run_equalIn_string w D t _ _ hu, beq_toListBytes]
      · cases h
    · rename_i fs hu; split at h
      · cases h
      · rename_i hst
        split at h
        · rename_i L hL
          split at h
          · cases h
            have key : ∀ (fl : List Field) (l L : List Nat), fl.foldl (fun (a : Option (List Nat)) f => match a, shP P d f.type with
                | some l, some s => if f.name ≠ "_" ∧ f.offset = l.length ∧ szP P f.type = some s.length then some (l ++ s) else none
                | _, _ => none) (some l) = some L →
                ∃ s, L = l ++ s ∧ ∀ (us0 vs0 us1 vs1 : List Value) (r : Bool), us0.length = l.length → vs0.length = l.length → EqL s us1 vs1 r →
                  (Op.eqFields D (us0 ++ us1).toArray (vs0 ++ vs1).toArray fl).run P w = .ok r w := by
              intro fl
              induction fl with
              | nil =>
                intro l L h
                simp only [List.foldl_nil, Option.some.injEq] at h
                refine ⟨[], by simp [h], fun us0 vs0 us1 vs1 r _ _ hE => ?_⟩
                cases hE
                simp [Op.eqFields]
              | cons f fl ihf =>
                intro l L h
                rw [List.foldl_cons] at h
                split at h
                · rename_i l' s e1 e2
                  cases e1
                  split at h
                  · rename_i hc
                    obtain ⟨s', hs', hk⟩ := ihf _ _ h
                    refine ⟨s ++ s', by rw [hs', List.append_assoc], fun us0 vs0 us1 vs1 r hu0 hv0 hE => ?_⟩
                    obtain ⟨ua, ub, va, vb, a, b, rfl, rfl, rfl, q1, q2⟩ := hE.split
                    obtain ⟨z1, z2, z3⟩ := shP_sz e2
                    obtain ⟨n1, n2⟩ := q1.len
                    have p1 := part_run P f.type (us0 ++ (ua ++ ub)) f.offset s.length hc.2.2 z2 z3 (by rw [hc.2.1]; simp; omega) w
                    have p2 := part_run P f.type (vs0 ++ (va ++ vb)) f.offset s.length hc.2.2 z2 z3 (by rw [hc.2.1]; simp; omega) w
                    rw [hc.2.1, ← hu0, drop_take_mid _ _ _ _ n1] at p1
                    rw [hc.2.1, ← hv0, drop_take_mid _ _ _ _ n2] at p2
                    have heq := ih f.type s e2 D hDD ua va a q1 w
                    have hk' := hk (us0 ++ ua) (vs0 ++ va) ub vb b (by simp; omega) (by simp; omega) q2
                    rw [List.append_assoc, List.append_assoc] at hk'
                    simp only [Op.eqFields, if_pos hc.1, Sem.run_bind]
                    rw [show f.offset = us0.length by rw [hc.2.1, hu0], p1]
                    simp only [Result.andThen_ok]
                    rw [show us0.length = vs0.length by omega, p2]
                    simp only [Result.andThen_ok, heq]
                    cases a with
                    | false => simp
                    | true => simpa using hk'
                  · rw [foldl_none _ (fun x => rfl)] at h; cases h
                · rw [foldl_none _ (fun x => rfl)] at h; cases h
            obtain ⟨s, hs, hk⟩ := key _ _ _ hL
            simp only [List.nil_append] at hs
            subst hs
            have hff : P.fieldsOf t = fs := by simp [Program.fieldsOf, hu]
            have := hk [] [] us vs r rfl rfl hE
            simp only [List.nil_append] at this
            rw [show pv P t us = .agg us.toArray by simp [pv, hu], show pv P t vs = .agg vs.toArray by simp [pv, hu], run_equalIn_struct w D t _ _ (by rw [hff]; exact hu) (by simpa using hst), hff]
            exact this
          · cases h
        · cases h
    · rename_i len e hu; split at h
      · rename_i s hs
        split at h
        · rename_i hc
          cases h
          obtain ⟨i, hi⟩ : ∃ i, P.info? e = some i := by
            have := hc.1; simp only [szP, Option.map_eq_some_iff] at this; obtain ⟨i, hi, _⟩ := this; exact ⟨i, hi⟩
          have hco : P.cellsOf e = s.length := by
            have := hc.1; simp only [szP, hi, Option.map_some, Option.some.injEq] at this
            simp [Program.cellsOf, hi, this]
          rw [show pv P t us = .agg us.toArray by simp [pv, hu], show pv P t vs = .agg vs.toArray by simp [pv, hu], run_equalIn_array w D _ _ hu hi, hco]
          obtain ⟨z1, z2, z3⟩ := shP_sz hs
          have key : ∀ (m k : Nat) (us0 vs0 us1 vs1 : List Value) (r : Bool), us0.length = k * s.length → vs0.length = k * s.length → EqL (List.replicate m s).flatten us1 vs1 r →
              (Op.eqItems D e s.length (us0 ++ us1).toArray (vs0 ++ vs1).toArray (List.range' k m)).run P w = .ok r w := by
            intro m
            induction m with
            | zero =>
              intro k us0 vs0 us1 vs1 r _ _ hE
              simp only [List.replicate_zero, List.flatten_nil] at hE
              cases hE
              simp [Op.eqItems]
            | succ m ihm =>
              intro k us0 vs0 us1 vs1 r hu0 hv0 hE
              rw [List.replicate_succ, List.flatten_cons] at hE
              obtain ⟨ua, ub, va, vb, a, b, rfl, rfl, rfl, q1, q2⟩ := hE.split
              obtain ⟨n1, n2⟩ := q1.len
              have p1 := part_run P e (us0 ++ (ua ++ ub)) (k * s.length) s.length hc.1 z2 z3 (by simp; omega) w
              have p2 := part_run P e (vs0 ++ (va ++ vb)) (k * s.length) s.length hc.1 z2 z3 (by simp; omega) w
              rw [← hu0, drop_take_mid _ _ _ _ n1] at p1
              rw [← hv0, drop_take_mid _ _ _ _ n2] at p2
              have heq := ih e s hs D hDD ua va a q1 w
              have hk' := ihm (k + 1) (us0 ++ ua) (vs0 ++ va) ub vb b (by rw [Nat.succ_mul]; simp; omega) (by rw [Nat.succ_mul]; simp; omega) q2
              rw [List.append_assoc, List.append_assoc] at hk'
              rw [List.range'_succ]
              simp only [Op.eqItems, Sem.run_bind]
              rw [← hu0, p1]
              simp only [Result.andThen_ok]
              rw [show us0.length = vs0.length by omega, p2]
              simp only [Result.andThen_ok, heq]
              cases a with
              | false => simp
              | true => simpa using hk'
          have := key len 0 [] [] us vs r (by simp) (by simp) hE
          simpa [List.range_eq_range'] using this
        · cases h
      · cases h
    · cases h


end
end Go.Px

/- What one operation does: equality, by its kinds. -/
namespace Go.Px
section
variable {E : Env} {g : Gh} {oT : Nat → Option Nat} {st st' : St} {a : Act} {w : World} {o : Oper} {gd : Option (Nat × Bool)}

theorem eqC_rep {ρ : List Nat} {I : Nat → Nat → Prop} {k : Nat} {x y : DV} {u v : Value} {r : Bool} (h : eqC k x y = some r) (hx : RepD ρ I w x u) (hy : RepD ρ I w y v) : EqC k u v r := by
  unfold eqC at h
  split at h
  · cases hx; cases hy; cases h; exact .b _ _
  · split at h
    · rename_i e; subst e; cases hx; cases hy; cases h; exact .i _ _ _
    · cases h
  · cases hx; cases hy; cases h
    rename_i x y
    have e : (x == y) = decide (x = y) := by rw [beq_toListBytes, ba_eq]
    rw [← e]; exact .s _ _
  · cases h

theorem eqL_rep {ρ : List Nat} {I : Nat → Nat → Prop} : ∀ {sh : List Nat} {xs ys : List DV} {us vs : List Value} {r : Bool}, eqL sh xs ys = some r → us.length = xs.length → vs.length = ys.length →
    (∀ (j : Nat) c v, xs[j]? = some c → us[j]? = some v → RepD ρ I w c v) → (∀ (j : Nat) c v, ys[j]? = some c → vs[j]? = some v → RepD ρ I w c v) → EqL sh us vs r := by
  intro sh
  induction sh with
  | nil =>
    intro xs ys us vs r h h1 h2 _ _
    cases xs with
    | nil =>
      cases ys with
      | nil =>
        cases h
        rw [List.length_eq_zero_iff.1 h1, List.length_eq_zero_iff.1 h2]; exact .nil
      | cons y ys => simp [eqL] at h
    | cons x xs => simp [eqL] at h
  | cons k sh ih =>
    intro xs ys us vs r h h1 h2 hx hy
    cases xs with
    | nil => simp [eqL] at h
    | cons x xs =>
      cases ys with
      | nil => simp [eqL] at h
      | cons y ys =>
        simp only [eqL] at h
        split at h
        · rename_i a b ha hb
          cases h
          cases us with
          | nil => simp at h1
          | cons u us =>
            cases vs with
            | nil => simp at h2
            | cons v vs =>
              exact .cons (eqC_rep ha (hx 0 _ _ rfl rfl) (hy 0 _ _ rfl rfl)) (ih hb (by simpa using h1) (by simpa using h2) (fun j c v h1 h2 => hx (j + 1) c v (by simpa using h1) (by simpa using h2)) (fun j c v h1 h2 => hy (j + 1) c v (by simpa using h1) (by simpa using h2)))
        · cases h

/-- What an equality has come to. -/
def EqRun (P : Program) (w : World) (t : TypeId) (u v : Value) (r : Bool) : Prop :=
  ∀ (p q : Operand), (do eqGuard .eql t p q u v; binOp .eql t u v : Sem Value).run P w = .ok (.bool r) w ∧ (do eqGuard .neq t p q u v; binOp .neq t u v : Sem Value).run P w = .ok (.bool (!r)) w

theorem eqRun_of {P : Program} {t : TypeId} {u v : Value} {r : Bool} (h : (Op.equal t u v).run P w = .ok r w)
    (g1 : ∀ p q, (eqGuard .eql t p q u v).run P w = .ok () w ∧ (eqGuard .neq t p q u v).run P w = .ok () w)
    (b1 : binOp .eql t u v = (do pure (.bool (← Op.equal t u v)))) (b2 : binOp .neq t u v = (do pure (.bool (!(← Op.equal t u v))))) : EqRun P w t u v r := by
  intro p q
  constructor
  · simp only [Sem.run_bind, (g1 p q).1, Result.andThen_ok, b1, h, Sem.run_pure]
  · simp only [Sem.run_bind, (g1 p q).2, Result.andThen_ok, b2, h, Sem.run_pure]

theorem eqRun_b {P : Program} {t : TypeId} (hu : P.underlying t = some .bool) (x y : Bool) : EqRun P w t (.bool x) (.bool y) (x == y) :=
  eqRun_of (run_equalIn_bool' w 9999 t _ _ hu) (fun _ _ => ⟨rfl, rfl⟩) rfl rfl

theorem eqIn_p {P : Program} {t el : TypeId} {n : Nat} (hu : P.underlying t = some (.pointer el)) (hn : szP P el = some n) (hn0 : n ≠ 0) (d : Nat) (a b : Option Addr) (hb : ∀ x y, a = some x → b = some y → x.block = y.block) :
    (Op.equalIn (d + 1) t (.pointer a) (.pointer b)).run P w = .ok (match a, b with | some x, some y => x == y | none, none => true | _, _ => false) w := by
  cases a with
  | none => cases b <;> simp only [Op.equalIn, Sem.run_bind, run_und hu, Result.andThen_ok, Sem.run_pure] <;> rfl
  | some x =>
    cases b with
    | none => simp only [Op.equalIn, Sem.run_bind, run_und hu, Result.andThen_ok, Sem.run_pure]
    | some y =>
      have := hb x y rfl rfl
      simp only [Op.equalIn, Sem.run_bind, run_und hu, Result.andThen_ok, run_sz hn, ne_eq, hn0, not_false_eq_true, if_true, sameAddr, this, beq_self_eq_true, Sem.run_pure]

theorem eqRun_p {P : Program} {t el : TypeId} {n : Nat} (hu : P.underlying t = some (.pointer el)) (hn : szP P el = some n) (hn0 : n ≠ 0) (a b : Option Addr) (hb : ∀ x y, a = some x → b = some y → x.block = y.block) :
    EqRun P w t (.pointer a) (.pointer b) (match a, b with | some x, some y => x == y | none, none => true | _, _ => false) :=
  eqRun_of (eqIn_p hu hn hn0 9999 a b hb) (fun _ _ => ⟨rfl, rfl⟩) rfl rfl

theorem eqIn_sl {P : Program} {t el : TypeId} (hu : P.underlying t = some (.slice el)) (d : Nat) (a b : Option Addr) (n c n' c' : Nat) (h : a = none ∨ b = none) :
    (Op.equalIn (d + 1) t (.slice a n c) (.slice b n' c')).run P w = .ok (a.isNone && b.isNone) w := by
  cases a with
  | none => simp only [Op.equalIn, Sem.run_bind, run_und hu, Result.andThen_ok, Sem.run_pure, Option.isNone_none, Bool.true_and]
  | some x =>
    cases b with
    | none => simp only [Op.equalIn, Sem.run_bind, run_und hu, Result.andThen_ok, Sem.run_pure, Option.isNone_some, Bool.false_and]
    | some y => simp at h

theorem eqRun_sl {P : Program} {t el : TypeId} (hu : P.underlying t = some (.slice el)) (a b : Option Addr) (n c n' c' : Nat) (h : a = none ∨ b = none) :
    EqRun P w t (.slice a n c) (.slice b n' c') (a.isNone && b.isNone) :=
  eqRun_of (eqIn_sl hu 9999 a b n c n' c' h) (fun _ _ => ⟨rfl, rfl⟩) rfl rfl

theorem eqIn_m {P : Program} {t k el : TypeId} (hu : P.underlying t = some (.map k el)) (d : Nat) (a b : Option Nat) (h : a = none ∨ b = none) :
    (Op.equalIn (d + 1) t (.map a) (.map b)).run P w = .ok (a.isNone && b.isNone) w := by
  cases a with
  | none => simp only [Op.equalIn, Sem.run_bind, run_und hu, Result.andThen_ok, Sem.run_pure, Option.isNone_none, Bool.true_and]
  | some x =>
    cases b with
    | none => simp only [Op.equalIn, Sem.run_bind, run_und hu, Result.andThen_ok, Sem.run_pure, Option.isNone_some, Bool.false_and]
    | some y => simp at h

theorem eqRun_m {P : Program} {t k el : TypeId} (hu : P.underlying t = some (.map k el)) (a b : Option Nat) (h : a = none ∨ b = none) : EqRun P w t (.map a) (.map b) (a.isNone && b.isNone) :=
  eqRun_of (eqIn_m hu 9999 a b h) (fun _ _ => ⟨rfl, rfl⟩) rfl rfl

theorem eqIn_f {P : Program} {t : TypeId} {x : Array TypeId} {y : Array TypeId} {z : Bool} (hu : P.underlying t = some (.func x y z)) (d : Nat) (f : Fn) (p q : Array Value) :
    (Op.equalIn (d + 1) t .nilFunc .nilFunc).run P w = .ok true w ∧ (Op.equalIn (d + 1) t (.func f p q) .nilFunc).run P w = .ok false w ∧ (Op.equalIn (d + 1) t .nilFunc (.func f p q)).run P w = .ok false w := by
  refine ⟨?_, ?_, ?_⟩ <;> simp only [Op.equalIn, Sem.run_bind, run_und hu, Result.andThen_ok, Sem.run_pure]

theorem eqRun_ff {P : Program} {t : TypeId} {x y z} (hu : P.underlying t = some (.func x y z)) : EqRun P w t .nilFunc .nilFunc true := 
  eqRun_of (eqIn_f hu 9999 default #[] #[]).1 (fun _ _ => ⟨rfl, rfl⟩) rfl rfl

theorem eqRun_f1 {P : Program} {t : TypeId} {x y z} (hu : P.underlying t = some (.func x y z)) (f : Fn) (p q : Array Value) : EqRun P w t (.func f p q) .nilFunc false :=
  eqRun_of (eqIn_f hu 9999 f p q).2.1 (fun _ _ => ⟨rfl, rfl⟩) rfl rfl

theorem eqRun_f2 {P : Program} {t : TypeId} {x y z} (hu : P.underlying t = some (.func x y z)) (f : Fn) (p q : Array Value) : EqRun P w t .nilFunc (.func f p q) false :=
  eqRun_of (eqIn_f hu 9999 f p q).2.2 (fun _ _ => ⟨rfl, rfl⟩) rfl rfl

theorem eqRun_ag {P : Program} {t : TypeId} {sh : List Nat} (hag : aggP P t = some true) (hs : shP P 20 t = some sh) (hg : P.eqGuardType P.depth t = false) (us vs : Array Value) {r : Bool} (h : EqL sh us.toList vs.toList r) :
    EqRun P w t (.agg us) (.agg vs) r := by
  refine eqRun_of ?_ (fun p q => ⟨run_eqGuard_agg w _ t p q us vs hg, run_eqGuard_agg w _ t p q us vs hg⟩) rfl rfl
  have := eq_flat P 20 t sh hs 10000 (by omega) _ _ _ h w
  rw [pv_agg hag, pv_agg hag] at this
  exact this

end
end Go.Px

/- What one operation does: equality of two operands. -/
namespace Go.Px
section
variable {E : Env} {g : Gh} {oT : Nat → Option Nat} {st st' : St} {a : Act} {w : World} {o : Oper} {gd : Option (Nat × Bool)}

theorem eqD_run {P : Program} {ρ : List Nat} {I : Nat → Nat → Prop} {t : TypeId} {e : EK} {x y : DV} {u v : Value} {r : Bool} (he : eqE P t = some e) (h : eqD e x y = some r) (hx : RepD ρ I w x u) (hy : RepD ρ I w y v) : EqRun P w t u v r := by
  unfold eqE at he
  split at he
  · rename_i hu
    cases he
    have h' : eqC 0 x y = some r := h
    have := eqC_rep h' hx hy
    cases this
    exact eqRun_b hu _ _
  · rename_i el hu
    split at he
    · rename_i n hn
      split at he
      · rename_i hn0
        cases he
        have hn0' : n ≠ 0 := by simpa using hn0
        cases x <;> first | (simp [eqD] at h; done) | skip
        · cases y <;> first | (simp [eqD] at h; done) | skip
          · cases h; cases hx; cases hy; exact eqRun_p hu hn hn0' none none (by simp)
          · cases h; cases hx; cases hy; exact eqRun_p hu hn hn0' none (some _) (by simp)
        · cases y <;> first | (simp [eqD] at h; done) | skip
          · cases h; cases hx; cases hy; exact eqRun_p hu hn hn0' (some _) none (by simp)
          · rename_i o1 a1 o2 a2
            simp only [eqD] at h
            split at h
            · rename_i e; subst e
              cases h
              cases hx with | @op _ b1 _ h1 =>
              cases hy with | @op _ b2 _ h2 =>
              rw [h1] at h2; cases h2
              have := eqRun_p (w := w) hu hn hn0' (some ⟨b1, a1, none⟩) (some ⟨b1, a2, none⟩) (by intro x y e1 e2; cases e1; cases e2; rfl)
              have e : ((⟨b1, a1, none⟩ : Addr) == ⟨b1, a2, none⟩) = decide (a1 = a2) := by
                by_cases h : a1 = a2
                · subst h; simp
                · simp [h]
              simp only [e] at this
              exact this
            · cases h
      · cases he
    · cases he
  · rename_i el hu
    cases he
    cases x <;> first | (simp [eqD] at h; done) | skip
    · cases y <;> first | (simp [eqD] at h; done) | skip
      cases h; cases hy
      cases hx
      exact eqRun_sl hu (some _) none _ _ 0 0 (.inr rfl)
    · cases y <;> first | (simp [eqD] at h; done) | skip
      · cases h; cases hx
        cases hy
        exact eqRun_sl hu none (some _) 0 0 _ _ (.inl rfl)
      · cases h; cases hx; cases hy
        exact eqRun_sl hu none none 0 0 0 0 (.inl rfl)
  · rename_i k el hu
    cases he
    cases x <;> first | (simp [eqD] at h; done) | skip
    · cases y <;> first | (simp [eqD] at h; done) | skip
      · cases h; cases hx; cases hy
        exact eqRun_m hu none none (.inl rfl)
      · cases h; cases hx; cases hy
        exact eqRun_m hu none (some _) (.inl rfl)
    · cases y <;> first | (simp [eqD] at h; done) | skip
      cases h; cases hx; cases hy
      exact eqRun_m hu (some _) none (.inr rfl)
  · rename_i hu
    cases he
    cases x <;> first | (simp [eqD] at h; done) | skip
    · cases y <;> first | (simp [eqD] at h; done) | skip
      · cases h; cases hx; cases hy
        exact eqRun_ff hu
      · cases h; cases hx; cases hy
        exact eqRun_f2 hu _ _ _
    · cases y <;> first | (simp [eqD] at h; done) | skip
      cases h; cases hx; cases hy
      exact eqRun_f1 hu _ _ _
  · rename_i hu
    split at he
    · cases he
    · rename_i hg
      simp only [Option.map_eq_some_iff] at he
      obtain ⟨sh, hs, rfl⟩ := he
      cases x <;> first | (simp [eqD] at h; done) | skip
      cases y <;> first | (simp [eqD] at h; done) | skip
      have h' : eqL sh _ _ = some r := h
      cases hx with | agg l1 o1 h1 =>
      cases hy with | agg l2 o2 h2 =>
      exact eqRun_ag (by simp [aggP, hu]) hs (by simpa using hg) _ _ (eqL_rep h' (by simpa using l1) (by simpa using l2) (fun j c v hc hv => h1 j c v hc (by simpa using hv)) (fun j c v hc hv => h2 j c v hc (by simpa using hv)))
  · rename_i hu
    split at he
    · cases he
    · rename_i hg
      simp only [Option.map_eq_some_iff] at he
      obtain ⟨sh, hs, rfl⟩ := he
      cases x <;> first | (simp [eqD] at h; done) | skip
      cases y <;> first | (simp [eqD] at h; done) | skip
      have h' : eqL sh _ _ = some r := h
      cases hx with | agg l1 o1 h1 =>
      cases hy with | agg l2 o2 h2 =>
      exact eqRun_ag (by simp [aggP, hu]) hs (by simpa using hg) _ _ (eqL_rep h' (by simpa using l1) (by simpa using l2) (fun j c v hc hv => h1 j c v hc (by simpa using hv)) (fun j c v hc hv => h2 j c v hc (by simpa using hv)))
  · cases he

theorem eqE_p {P : Program} {t : TypeId} (he : eqE P t = some .p) : ∃ el n, P.underlying t = some (.pointer el) ∧ szP P el = some n ∧ n ≠ 0 := by
  unfold eqE at he
  split at he <;> first | (cases he; done) | skip
  · rename_i el hu
    split at he
    · rename_i n hn
      split at he
      · rename_i h0; exact ⟨el, n, hu, hn, by simpa using h0⟩
      · cases he
    · cases he
  all_goals (split at he; · cases he)
  all_goals (simp at he)

theorem eqE_m {P : Program} {t : TypeId} (he : eqE P t = some .m) : ∃ k el, P.underlying t = some (.map k el) := by
  unfold eqE at he
  split at he <;> first | (cases he; done) | skip
  · split at he
    · split at he <;> cases he
    · cases he
  · rename_i k el hu; exact ⟨k, el, hu⟩
  all_goals (split at he; · cases he)
  all_goals (simp at he)

theorem eqE_f {P : Program} {t : TypeId} (he : eqE P t = some .f) : ∃ x y z, P.underlying t = some (.func x y z) := by
  unfold eqE at he
  split at he <;> first | (cases he; done) | skip
  · split at he
    · split at he <;> cases he
    · cases he
  · rename_i hu; exact ⟨_, _, _, hu⟩
  all_goals (split at he; · cases he)
  all_goals (simp at he)

theorem eqA_run {P : Program} {ρ : List Nat} {I : Nat → Nat → Prop} {fs : List (List (Nat × Nat))} {t : TypeId} {e : EK} {x y : AV} {u v : Value} {r : Bool} (he : eqE P t = some e) (h : eqA e x y = some r)
    (hx : RepA ρ I w fs x u) (hy : RepA ρ I w fs y v) : EqRun P w t u v r := by
  unfold eqA at h
  split at h
  · exact eqD_run he h hx.d_inv hy.d_inv
  · obtain ⟨el, n, hu, hn, hn0⟩ := eqE_p he
    cases h; cases hx
    have hy := hy.d_inv
    cases hy
    exact eqRun_p hu hn hn0 (some _) none (by simp)
  · obtain ⟨el, n, hu, hn, hn0⟩ := eqE_p he
    cases h; cases hy
    have hx := hx.d_inv
    cases hx
    exact eqRun_p hu hn hn0 none (some _) (by simp)
  · obtain ⟨k, el, hu⟩ := eqE_m he
    cases h; cases hx
    have hy := hy.d_inv
    cases hy
    exact eqRun_m hu (some _) none (.inr rfl)
  · obtain ⟨k, el, hu⟩ := eqE_m he
    cases h; cases hy
    have hx := hx.d_inv
    cases hx
    exact eqRun_m hu none (some _) (.inl rfl)
  · obtain ⟨_, _, _, hu⟩ := eqE_f he
    cases h; cases hx
    have hy := hy.d_inv
    cases hy
    exact eqRun_f1 hu _ _ _
  · obtain ⟨_, _, _, hu⟩ := eqE_f he
    cases h; cases hy
    have hx := hx.d_inv
    cases hx
    exact eqRun_f2 hu _ _ _
  · cases h

theorem snd_eq (h : RS E g oT st a w) (hd : ∀ t, o.dst = some t → t < a.tmps.size) {op : BinOp} {t : TypeId} {x y : Operand} {ty : TypeId} {xv yv : XV} {neg : Bool} {e : EK} (hx : opnd x = some xv) (hy : opnd y = some yv)
    (he : eqE E.P t = some e) (hopn : op = if neg then .neq else .eql) (hop : o.op = .binOp op t x y ty) (hF : opF ⟨o.dst, .eq neg e xv yv, gd⟩ st = some st') : Res E (execOp a.eval o) g oT st.hp a w o.dst st' := by
  simp only [opF, Option.map_eq_some_iff] at hF
  obtain ⟨r, hr, rfl⟩ := hF
  obtain ⟨r1, r2⟩ := eqA_run (w := w) he hr (ev_rep h hx) (ev_rep h hy) x y
  refine .pure h _ _ (.bool (if neg then !r else r)) hd ?_ (.d (.b _)) (fun s hs => absurd hs not_hasLoc_d) (by simp)
  simp only [Sem.run_bind] at r1 r2
  cases neg with
  | false =>
    simp only [Bool.false_eq_true, if_false] at hopn ⊢
    subst hopn
    simp only [execOp, hop, Sem.run_bind, r1, Result.andThen_ok, Sem.run_pure]
  | true =>
    simp only [if_true] at hopn ⊢
    subst hopn
    simp only [execOp, hop, Sem.run_bind, r2, Result.andThen_ok, Sem.run_pure]

end
end Go.Px

/- What one operation does: maps. -/
namespace Go.Px
section
variable {E : Env} {g : Gh} {oT : Nat → Option Nat} {st st' : St} {a : Act} {w : World} {o : Oper} {gd : Option (Nat × Bool)}

/-- Keys of one cell. -/
theorem key_eq {P : Program} {ρ : List Nat} {I : Nat → Nat → Prop} {t : TypeId} {q : EK} {x y : DV} {u v : Value} {r : Bool} (hq : keyE P t = some q) (h : eqD q x y = some r) (hx : RepD ρ I w x u) (hy : RepD ρ I w y v) :
    ∃ d, P.underlying t = some d ∧ (Op.equal t u v).run P w = .ok r w ∧ Instr.sameNow d u v = some r ∧ ∀ b, (Instr.checkKey b 10000 t u).run P w = .ok () w := by
  unfold keyE at hq
  split at hq
  · rename_i hu
    cases hq
    have := eqC_rep (show eqC 0 x y = some r from h) hx hy
    cases this
    exact ⟨_, hu, run_equalIn_bool' w 9999 t _ _ hu, rfl, fun b => by rw [Instr.checkKey]; simp only [Sem.run_bind, run_und hu, Result.andThen_ok, Sem.run_pure]⟩
  · rename_i k hu
    cases hq
    have := eqC_rep (show eqC 1 x y = some r from h) hx hy
    cases this
    exact ⟨_, hu, run_equalIn_int w 9999 t _ _ _ _ hu, by simp [Instr.sameNow], fun b => by rw [Instr.checkKey]; simp only [Sem.run_bind, run_und hu, Result.andThen_ok, Sem.run_pure]⟩
  · rename_i hu
    cases hq
    have := eqC_rep (show eqC 2 x y = some r from h) hx hy
    cases this
    exact ⟨_, hu, by rw [beq_toListBytes]; exact run_equalIn_string w 9999 t _ _ hu, rfl, fun b => by rw [Instr.checkKey]; simp only [Sem.run_bind, run_und hu, Result.andThen_ok, Sem.run_pure]⟩
  · cases hq

theorem check_key {P : Program} {ρ : List Nat} {I : Nat → Nat → Prop} {t : TypeId} {q : EK} {x : DV} {u : Value} (hq : keyE P t = some q) (_ : RepD ρ I w x u) (b : Bool) : (Instr.checkKey b 10000 t u).run P w = .ok () w := by
  unfold keyE at hq
  split at hq <;> first | (cases hq; done) | skip
  all_goals (rename_i hu; rw [Instr.checkKey]; simp only [Sem.run_bind, run_und hu, Result.andThen_ok, Sem.run_pure])

theorem find_now {P : Program} {ρ : List Nat} {I : Nat → Nat → Prop} {t : TypeId} {q : EK} {x : DV} {u : Value} {d : TypeDesc} (hq : keyE P t = some q) (hd : P.underlying t = some d) (hx : RepD ρ I w x u) :
    ∀ (es : List ME) (ms : List MapEntry) (R : Option (Nat × DV)) (i : Nat), findE q x es = some R → ms.length = es.length → (∀ (j : Nat) e m, es[j]? = some e → ms[j]? = some m → RepD ρ I w e.k m.key ∧ RepD ρ I w e.v m.val ∧ m.born = e.born) →
      ∃ R' : Option (Nat × Value), Instr.findNow d u ms i = some R' ∧
        match R, R' with
        | none, none => True
        | some (j, v), some (j', v') => j' = j + i ∧ j < es.length ∧ RepD ρ I w v v' ∧ ∃ e m, es[j]? = some e ∧ ms[j]? = some m ∧ eqD q x e.k = some true
        | _, _ => False := by
  intro es
  induction es with
  | nil =>
    intro ms R i h hl _
    cases h
    have : ms = [] := List.length_eq_zero_iff.1 hl
    subst this
    exact ⟨none, rfl, trivial⟩
  | cons e es ih =>
    intro ms R i h hl hr
    cases ms with
    | nil => simp at hl
    | cons m ms =>
      obtain ⟨r1, r2, r3⟩ := hr 0 e m rfl rfl
      simp only [findE] at h
      split at h
      · rename_i he
        cases h
        obtain ⟨d', hd', _, hs, _⟩ := key_eq (w := w) hq he hx r1
        rw [hd] at hd'; cases hd'
        refine ⟨some (i, m.val), by simp only [Instr.findNow, hs], by simp, by simp, r2, e, m, rfl, rfl, he⟩
      · rename_i he
        obtain ⟨d', hd', _, hs, _⟩ := key_eq (w := w) hq he hx r1
        rw [hd] at hd'; cases hd'
        simp only [Option.map_eq_some_iff] at h
        obtain ⟨R0, hR0, rfl⟩ := h
        obtain ⟨R', h1, h2⟩ := ih ms R0 (i + 1) hR0 (by simpa using hl) (fun j e m h1 h2 => hr (j + 1) e m (by simpa using h1) (by simpa using h2))
        refine ⟨R', by simp only [Instr.findNow, hs, h1], ?_⟩
        cases R0 with
        | none => cases R' <;> first | (simp at h2; done) | simp
        | some p =>
          obtain ⟨j, v⟩ := p
          cases R' with
          | none => exact absurd h2 (by simp)
          | some p' =>
            obtain ⟨j', v'⟩ := p'
            obtain ⟨a1, a2, a3, e', m', a4, a5, a6⟩ := h2
            exact ⟨by simp only; omega, by simp only [List.length_cons]; omega, a3, e', m', by simpa using a4, by simpa using a5, a6⟩
      · cases h

/-- The map that an operand leads to. -/
theorem mapAt_spec (h : RS E g oT st a w) {v : AV} {x : Value} (hr : RepA g.ρ g.I w g.fs v x) {es : List ME} {c : Nat} (hm : mapAt st v = some (es, c)) :
    (x = .map none ∧ es = [] ∧ v = .d .nm) ∨ ∃ p b arr, x = .map (some b) ∧ plGet st.frs st.hp p = some (.map es c) ∧ plB g p = some b ∧ w.heap[b]? = some (.map arr c) ∧ arr.size = es.length ∧
      (∀ (j : Nat) e m, es[j]? = some e → arr[j]? = some m → RepD g.ρ g.I w e.k m.key ∧ RepD g.ρ g.I w e.v m.val ∧ m.born = e.born) ∧
      ∀ es' c', mapSet st es' c' v = some (st.setP p (.map es' c') st.cp) := by
  have key : ∀ (p : Pl) (b : Nat), plGet st.frs st.hp p = some (.map es c) → plB g p = some b → ∃ arr, w.heap[b]? = some (.map arr c) ∧ arr.size = es.length ∧
      (∀ (j : Nat) e m, es[j]? = some e → arr[j]? = some m → RepD g.ρ g.I w e.k m.key ∧ RepD g.ρ g.I w e.v m.val ∧ m.born = e.born) := by
    intro p b hp hb
    obtain ⟨b', hb', arr, k1, k2, k3⟩ := h.m.con p _ hp
    rw [hb] at hb'; cases hb'
    refine ⟨arr, k1, k2, fun j e m he hmm => ?_⟩
    obtain ⟨m', h1, h2, h3, h4⟩ := k3 j e he
    rw [hmm] at h1; cases h1
    exact ⟨h2, h3, h4⟩
  unfold mapAt at hm
  cases v with
  | mb r =>
    simp only at hm
    split at hm
    · rename_i es' c' hg
      cases hm
      cases hr with | @mb _ b hb =>
      obtain ⟨arr, k1, k2, k3⟩ := key (.fr r) b hg hb
      exact .inr ⟨.fr r, b, arr, rfl, hg, hb, k1, k2, k3, fun es' c' => by simp only [mapSet, setP_fr]⟩
    · cases hm
  | d dv =>
    have hr := hr.d_inv
    cases dv with
    | mo oo =>
      simp only at hm
      split at hm
      · rename_i es' c' hg
        cases hm
        cases hr with | @mo _ b hb =>
        obtain ⟨arr, k1, k2, k3⟩ := key (.ob oo) b hg hb
        exact .inr ⟨.ob oo, b, arr, rfl, hg, hb, k1, k2, k3, fun es' c' => rfl⟩
      · cases hm
    | nm => cases hm; cases hr; exact .inl ⟨rfl, rfl, rfl⟩
    | _ => simp at hm
  | _ => simp at hm

theorem getObj_run {P : Program} {b : Nat} {arr : Array MapEntry} {c : Nat} (h : w.heap[b]? = some (.map arr c)) : (getObj b).run P w = .ok (.map arr c) w := by
  simp [getObj, Sem.run, h]

theorem snd_lookup (h : RS E g oT st a w) (hd : ∀ t, o.dst = some t → t < a.tmps.size) {t kt e : TypeId} {x k : Operand} {xv kv : XV} {z : DV} {q : EK} {ok : Bool} (hu : E.P.underlying t = some (.map kt e)) (hx : opnd x = some xv) (hk : opnd k = some kv)
    (hz : zeroP E.P e = some z) (hq : keyE E.P kt = some q) (hop : o.op = .lookup t x k ok) (hF : opF ⟨o.dst, .lookup z q xv kv ok, gd⟩ st = some st') : Res E (execOp a.eval o) g oT st.hp a w o.dst st' := by
  have hxr := ev_rep h hx
  simp only [opF] at hF
  split at hF
  · rename_i es c kd hm hkd
    have hkr := toD_rep (ev_rep h hk) hkd
    split at hF
    · rename_i R hR
      simp only [Option.some.injEq] at hF; subst hF
      have hck : ∀ b, (Instr.checkKey b 10000 kt (a.eval k)).run E.P w = .ok () w := fun b => check_key hq hkr b
      obtain ⟨d, hdd⟩ : ∃ d, E.P.underlying kt = some d := by
        unfold keyE at hq; split at hq <;> first | (cases hq; done) | exact ⟨_, ‹_›⟩
      obtain ⟨zv, hz1, hz2⟩ := run_zero (w := w) hz
      have hzr := ofC_rep hz2 g.ρ g.I w
      have fin : ∀ (v : DV) (x' : Value) (b : Bool), RepD g.ρ g.I w v x' → (execOp a.eval o).run E.P w = .ok (.value (if ok then .tuple #[x', .bool b] else x')) w →
          Res E (execOp a.eval o) g oT st.hp a w o.dst (st.put o.dst (if ok then .tup [.d v, .d (.b b)] else .d v)) := by
        intro v x' b hv hrun
        cases ok with
        | false => exact .pure h _ _ _ hd hrun (.d hv) (fun s hs => absurd hs not_hasLoc_d) (by simp)
        | true =>
          refine .pure h _ _ _ hd hrun (.tup rfl ?_) ?_ (by simp)
          · intro j c v' hc hv'
            match j with
            | 0 => simp at hc hv'; subst hc; subst hv'; exact .d hv
            | 1 => simp at hc hv'; subst hc; subst hv'; exact .d (.b _)
            | j + 2 => simp at hc
          · intro s hs
            cases hs with | tup hc hs =>
            simp only [List.mem_cons, List.not_mem_nil, or_false] at hc
            rcases hc with rfl | rfl <;> exact absurd hs not_hasLoc_d
      generalize hxe : a.eval x = ax at hxr
      rcases mapAt_spec h hxr hm with ⟨rfl, rfl, _⟩ | ⟨p, b, arr, rfl, hp, hb, k1, k2, k3, _⟩
      · cases hR
        refine fin z zv false hzr ?_
        simp only [execOp, hop, Instr.lookup, Sem.run_bind, run_und hu, hxe, Result.andThen_ok, Sem.run_pure, hck, Instr.findKey, run_und hdd, Instr.findNow, hz1]
      · obtain ⟨R', f1, f2⟩ := find_now (w := w) hq hdd hkr es arr.toList R 0 hR (by simpa using k2) (fun j e m h1 h2 => k3 j e m h1 (by simpa using h2))
        cases R with
        | none =>
          cases R' with
          | none =>
            refine fin z zv false hzr ?_
            simp only [execOp, hop, Instr.lookup, Sem.run_bind, run_und hu, hxe, Result.andThen_ok, Sem.run_pure, hck, Instr.findKey, run_und hdd, getObj_run k1, f1, hz1]
          | some p' => exact absurd f2 (by simp)
        | some pr =>
          obtain ⟨j, v⟩ := pr
          cases R' with
          | none => exact absurd f2 (by simp)
          | some p' =>
            obtain ⟨j', v'⟩ := p'
            obtain ⟨a1, a2, a3, _⟩ := f2
            refine fin v v' true a3 ?_
            simp only [execOp, hop, Instr.lookup, Sem.run_bind, run_und hu, hxe, Result.andThen_ok, Sem.run_pure, hck, Instr.findKey, run_und hdd, getObj_run k1, f1]
    · cases hF
  · cases hF

end
end Go.Px

/- What one operation does: maps that turn. -/
namespace Go.Px
section
variable {E : Env} {g : Gh} {oT : Nat → Option Nat} {st st' : St} {a : Act} {w : World} {o : Oper} {gd : Option (Nat × Bool)}

theorem setObj_run {P : Program} {b : Nat} {arr : Array MapEntry} {c : Nat} (h : w.heap[b]? = some (.map arr c)) (o : Obj) : (setObj b o).run P w = .ok () { w with heap := w.heap.setIfInBounds b o } := by
  simp [setObj, Sem.run, h]

/-- A map's entries turn. -/
theorem map_core {sem : Sem Next} (h : RS E g oT st a w) {p : Pl} {b : Nat} {es es' : List ME} {arr arr' : Array MapEntry} {c c' : Nat} (hp : plGet st.frs st.hp p = some (.map es c)) (hb : plB g p = some b) (k1 : w.heap[b]? = some (.map arr c))
    (hl : arr'.size = es'.length) (hr : ∀ (j : Nat) e m, es'[j]? = some e → arr'[j]? = some m → RepD g.ρ g.I w e.k m.key ∧ RepD g.ρ g.I w e.v m.val ∧ m.born = e.born)
    (d : Option Nat) (hd : ∀ t, d = some t → t < a.tmps.size) (v : Value)
    (hrun : sem.run E.P w = .ok (.value v) { w with heap := w.heap.setIfInBounds b (.map arr' c') } ∨ (sem.run E.P w = .ok .skip { w with heap := w.heap.setIfInBounds b (.map arr' c') } ∧ v = undef)) :
    Res E sem g oT st.hp a w d ((st.setP p (.map es' c') st.cp).put d .dead) := by
  have hmem := plB_mem hp hb
  have hbl := (h.m.new b hmem).2.1
  have hoth : ∀ x, x ≠ b → ({ w with heap := w.heap.setIfInBounds b (.map arr' c') } : World).heap[x]? = w.heap[x]? := by
    intro x hx
    show (w.heap.setIfInBounds b _)[x]? = _
    rw [Array.getElem?_setIfInBounds_ne (fun e => hx e.symm)]
  have hsz : ({ w with heap := w.heap.setIfInBounds b (.map arr' c') } : World).heap.size = w.heap.size := by simp
  have hI : ∀ x k, g.I x k → ({ w with heap := w.heap.setIfInBounds b (.map arr' c') } : World).cell? ⟨x, k, none⟩ = w.cell? ⟨x, k, none⟩ :=
    fun x k hk => cell?_of (hoth x fun e => (h.m.new b hmem).2.2 k (e ▸ hk)) k
  have hU := h.upd (o' := .map es' c') hp hb { w with heap := w.heap.setIfInBounds b (.map arr' c') } g.owM st.cp hsz hoth rfl rfl rfl (fun _ _ _ => rfl)
    (fun i x hx => by
      obtain ⟨a1, a2, a3, a4⟩ := h.m.own b i x hx
      exact ⟨a2, a3, a4, fun y j hy hj => hy (h.m.inj b i y j x hx hj).1.symm, fun t ht => (h.on t x ht).2.1 b i hx⟩)
    (fun i j x hi hj => (h.m.inj b i b j x hi hj).2)
    ⟨arr', by show (w.heap.setIfInBounds b _)[b]? = _; rw [Array.getElem?_setIfInBounds_self_of_lt hbl], hl, fun i e hi => by
      have hlt := (List.getElem?_eq_some_iff.1 hi).1
      have hm : arr'[i]? = some (arr'[i]'(by omega)) := Array.getElem?_eq_getElem (by omega)
      obtain ⟨r1, r2, r3⟩ := hr i e _ hi hm
      exact ⟨_, hm, r1.mono (List.prefix_refl _) (fun _ _ x => x) hI, r2.mono (List.prefix_refl _) (fun _ _ x => x) hI, r3⟩⟩
    (fun t l hl => ⟨hl, .inr (.inr fun k => by simp [World.cell?, k1])⟩)
    (fun s _ cs e => by cases e)
  refine ⟨v, _, _, _, hrun, hU.put d .dead v none hd (.dead _) (fun s hs => by cases hs) (fun sz xs e => by cases e) (by simp), ?_⟩
  have e1 : ((st.setP p (.map es' c') st.cp).put d .dead).hp = (st.setP p (.map es' c') st.cp).hp := by cases d <;> rfl
  rw [e1]
  refine (Stp.upd (ow := g.owM) h.m hp hb (.refl _ _ _ _) hsz hoth rfl rfl rfl (fun x i c hc => .inr (.inl ⟨x, i, hc⟩))).trans (Stp.same (fun x hx => ?_) rfl)
  rcases mine_put hx with hx | hx
  · exact .inl hx
  · cases hx

theorem setE_get : ∀ (es : List ME) (i : Nat) (k v : DV) (j : Nat), (setE es i k v)[j]? = if i = j then (es[j]?).map (fun e => { e with k := k, v := v }) else es[j]? := by
  intro es
  induction es with
  | nil => intro i k v j; cases i <;> simp [setE]
  | cons e es ih =>
    intro i k v j
    cases i with
    | zero => cases j <;> simp [setE]
    | succ i => cases j <;> simp [setE, ih]

theorem setE_len : ∀ (es : List ME) (i : Nat) (k v : DV), (setE es i k v).length = es.length := by
  intro es
  induction es with
  | nil => intro i k v; cases i <;> rfl
  | cons e es ih => intro i k v; cases i <;> simp [setE, ih]

theorem delE_eq : ∀ (es : List ME) (i : Nat), delE es i = es.eraseIdx i := by
  intro es
  induction es with
  | nil => intro i; cases i <;> rfl
  | cons e es ih => intro i; cases i <;> simp [delE, ih]

theorem same_bits {P : Program} {ρ : List Nat} {I : Nat → Nat → Prop} {t : TypeId} {q : EK} {x y : DV} {u v : Value} (hq : keyE P t = some q) (h : eqD q x y = some true) (hx : RepD ρ I w x u) (hy : RepD ρ I w y v) :
    Instr.sameBits 10000 v u = true := by
  unfold keyE at hq
  split at hq
  · cases hq
    have := eqC_rep (show eqC 0 x y = some true from h) hx hy
    generalize hr : true = r at this
    cases this
    have : _ = _ := eq_of_beq hr.symm
    subst this; simp [Instr.sameBits]
  · cases hq
    have := eqC_rep (show eqC 1 x y = some true from h) hx hy
    generalize hr : true = r at this
    cases this
    have : _ = _ := eq_of_beq hr.symm
    subst this; simp [Instr.sameBits]
  · cases hq
    have := eqC_rep (show eqC 2 x y = some true from h) hx hy
    generalize hr : true = r at this
    cases this
    rw [beq_toListBytes, ba_eq] at hr
    have := of_decide_eq_true hr.symm
    subst this
    simp only [Instr.sameBits, beq_toListBytes, ba_eq, decide_true]
  · cases hq

theorem snd_mupd (h : RS E g oT st a w) (hd : ∀ t, o.dst = some t → t < a.tmps.size) {t kt e : TypeId} {x k y : Operand} {xv kv yv : XV} {q : EK} (hu : E.P.underlying t = some (.map kt e)) (hx : opnd x = some xv) (hk : opnd k = some kv) (hy : opnd y = some yv)
    (hq : keyE E.P kt = some q) (hop : o.op = .mapUpdate t x k y) (hF : opF ⟨o.dst, .mupd q xv kv yv, gd⟩ st = some st') : Res E (execOp a.eval o) g oT st.hp a w o.dst st' := by
  have hxr := ev_rep h hx
  simp only [opF] at hF
  split at hF
  · rename_i es c kd vd hm hkd hvd
    have hkr := toD_rep (ev_rep h hk) hkd
    have hvr := toD_rep (ev_rep h hy) hvd
    have hck : ∀ b, (Instr.checkKey b 10000 kt (a.eval k)).run E.P w = .ok () w := fun b => check_key hq hkr b
    obtain ⟨d, hdd⟩ : ∃ d, E.P.underlying kt = some d := by
      unfold keyE at hq; split at hq <;> first | (cases hq; done) | exact ⟨_, ‹_›⟩
    generalize hxe : a.eval x = ax at hxr
    rcases mapAt_spec h hxr hm with ⟨rfl, rfl, hnm⟩ | ⟨p, b, arr, rfl, hp, hb, k1, k2, k3, k4⟩
    · rw [hnm] at hF
      simp [findE, mapSet] at hF
    · split at hF
      · rename_i i v0 hR
        rw [k4] at hF
        simp only [Option.map_some, Option.some.injEq] at hF; subst hF
        obtain ⟨R', f1, f2⟩ := find_now (w := w) hq hdd hkr es arr.toList _ 0 hR (by simpa using k2) (fun j e m h1 h2 => k3 j e m h1 (by simpa using h2))
        cases R' with
        | none => exact absurd f2 (by simp)
        | some p' =>
          obtain ⟨j', v'⟩ := p'
          obtain ⟨a1, a2, a3, e0, m0, a4, a5, a6⟩ := f2
          simp only [Nat.add_zero] at a1
          subst a1
          have hm0 : arr[j']? = some m0 := by simpa using a5
          have hsb := same_bits (w := w) hq a6 hkr (k3 j' e0 m0 a4 hm0).1
          refine map_core h hp hb k1 (arr' := arr.modify j' fun e => { e with key := a.eval k, val := a.eval y }) (by rw [setE_len]; simpa using k2) ?_ o.dst hd undef (.inr ⟨?_, rfl⟩)
          · intro j e m he hmm
            rw [setE_get] at he
            rw [Array.getElem?_modify] at hmm
            split at he
            · rename_i e1; subst e1
              simp only [if_true] at hmm
              simp only [Option.map_eq_some_iff] at he hmm
              obtain ⟨e2, he2, rfl⟩ := he
              obtain ⟨m2, hm2, rfl⟩ := hmm
              exact ⟨hkr, hvr, (k3 _ e2 m2 he2 hm2).2.2⟩
            · rename_i hne
              rw [if_neg hne] at hmm
              exact k3 j e m he hmm
          · simp only [execOp, hop, Instr.mapUpdate, Sem.run_bind, run_und hu, hxe, Result.andThen_ok, Sem.run_pure, hck, Instr.findKey, run_und hdd, getObj_run k1, f1, Instr.keyThatStays, hm0, Option.map_some, Option.getD_some, hsb, if_true, setObj_run k1]
      · rename_i hR
        rw [k4] at hF
        simp only [Option.map_some, Option.some.injEq] at hF; subst hF
        obtain ⟨R', f1, f2⟩ := find_now (w := w) hq hdd hkr es arr.toList _ 0 hR (by simpa using k2) (fun j e m h1 h2 => k3 j e m h1 (by simpa using h2))
        cases R' with
        | some p' => exact absurd f2 (by simp)
        | none =>
          refine map_core h hp hb k1 (arr' := arr.push { key := a.eval k, val := a.eval y, born := c }) (by simp [k2]) ?_ o.dst hd undef (.inr ⟨?_, rfl⟩)
          · intro j e m he hmm
            rw [Array.getElem?_push] at hmm
            rw [List.getElem?_append] at he
            split at hmm
            · rename_i hj
              rw [if_neg (by omega), hj, k2] at he
              simp only [Nat.sub_self, List.getElem?_cons_zero, Option.some.injEq] at he
              subst he; cases hmm
              exact ⟨hkr, hvr, rfl⟩
            · rename_i hj
              have hjl : j < arr.size := (Array.getElem?_eq_some_iff.1 hmm).1
              rw [if_pos (by omega)] at he
              exact k3 j e m he hmm
          · simp only [execOp, hop, Instr.mapUpdate, Sem.run_bind, run_und hu, hxe, Result.andThen_ok, Sem.run_pure, hck, Instr.findKey, run_und hdd, getObj_run k1, f1, setObj_run k1]
      · cases hF
  · cases hF

theorem snd_del (h : RS E g oT st a w) (hd : ∀ t, o.dst = some t → t < a.tmps.size) {t kt e : TypeId} {ts : Array TypeId} {x k : Operand} {xv kv : XV} {q : EK} (ht : ts[0]? = some t) (hu : E.P.underlying t = some (.map kt e)) (hx : opnd x = some xv) (hk : opnd k = some kv)
    (hq : keyE E.P kt = some q) (hop : o.op = .call { callee := .builtin .delete, args := #[x, k], argTypes := ts }) (hF : opF ⟨o.dst, .del q xv kv, gd⟩ st = some st') : Res E (execOp a.eval o) g oT st.hp a w o.dst st' := by
  have hxr := ev_rep h hx
  simp only [opF] at hF
  split at hF
  · rename_i es c kd hm hkd
    have hkr := toD_rep (ev_rep h hk) hkd
    have hck : ∀ b, (Instr.checkKey b 10000 kt (a.eval k)).run E.P w = .ok () w := fun b => check_key hq hkr b
    obtain ⟨d, hdd⟩ : ∃ d, E.P.underlying kt = some d := by
      unfold keyE at hq; split at hq <;> first | (cases hq; done) | exact ⟨_, ‹_›⟩
    generalize hxe : a.eval x = ax at hxr
    rcases mapAt_spec h hxr hm with ⟨rfl, rfl, hnm⟩ | ⟨p, b, arr, rfl, hp, hb, k1, k2, k3, k4⟩
    · simp only [findE, Option.some.injEq] at hF; subst hF
      refine ⟨.tuple #[], w, g, _, .inl ?_, h.put o.dst .dead (.tuple #[]) none hd (.dead _) (fun s hs => by cases hs) (fun sz xs e => by cases e) (by simp), ?_⟩
      · simp only [execOp, hop, resolve, Sem.run_bind, Sem.run_pure, Result.andThen_ok, invoke, builtin, List.map_toArray, List.map_cons, List.map_nil, hxe, Builtin.delete_, ht, run_und hu, hck, List.getElem?_toArray, List.getElem?_cons_zero, List.getElem?_cons_succ]
      · have e1 : (st.put o.dst .dead).hp = st.hp := by cases o.dst <;> rfl
        rw [e1]
        refine Stp.same (fun x hx => ?_) rfl
        rcases mine_put hx with hx | hx
        · exact .inl hx
        · cases hx
    · split at hF
      · rename_i i v0 hR
        rw [k4] at hF
        simp only [Option.map_some, Option.some.injEq] at hF; subst hF
        obtain ⟨R', f1, f2⟩ := find_now (w := w) hq hdd hkr es arr.toList _ 0 hR (by simpa using k2) (fun j e m h1 h2 => k3 j e m h1 (by simpa using h2))
        cases R' with
        | none => exact absurd f2 (by simp)
        | some p' =>
          obtain ⟨j', v'⟩ := p'
          obtain ⟨a1, a2, a3, e0, m0, a4, a5, a6⟩ := f2
          simp only [Nat.add_zero] at a1
          subst a1
          have hjs : j' < arr.size := by omega
          have hes : (arr.eraseIdxIfInBounds j').toList = arr.toList.eraseIdx j' := by simp [Array.eraseIdxIfInBounds, hjs]
          refine map_core h hp hb k1 (arr' := arr.eraseIdxIfInBounds j') (c' := c) ?_ ?_ o.dst hd (.tuple #[]) (.inl ?_)
          · rw [delE_eq, ← Array.length_toList, hes, List.length_eraseIdx, List.length_eraseIdx]; simp [k2]
          · intro j e m he hmm
            rw [delE_eq, List.getElem?_eraseIdx] at he
            rw [← Array.getElem?_toList, hes, List.getElem?_eraseIdx] at hmm
            split at he
            · rename_i hlt; rw [if_pos hlt] at hmm; exact k3 j e m he (by simpa using hmm)
            · rename_i hlt; rw [if_neg hlt] at hmm; exact k3 (j + 1) e m he (by simpa using hmm)
          · simp only [execOp, hop, resolve, Sem.run_bind, Sem.run_pure, Result.andThen_ok, invoke, builtin, List.map_toArray, List.map_cons, List.map_nil, hxe, Builtin.delete_, ht, run_und hu, hck, List.getElem?_toArray, List.getElem?_cons_zero, List.getElem?_cons_succ,
              getObj_run k1, Instr.findKey, run_und hdd, f1, setObj_run k1]
      · rename_i hR
        simp only [Option.some.injEq] at hF; subst hF
        obtain ⟨R', f1, f2⟩ := find_now (w := w) hq hdd hkr es arr.toList _ 0 hR (by simpa using k2) (fun j e m h1 h2 => k3 j e m h1 (by simpa using h2))
        cases R' with
        | some p' => exact absurd f2 (by simp)
        | none =>
          have hbl := (Array.getElem?_eq_some_iff.1 k1).1
          have hw : ({ w with heap := w.heap.setIfInBounds b (.map arr c) } : World) = w := by
            have : w.heap.setIfInBounds b (.map arr c) = w.heap := by
              apply Array.ext_getElem?
              intro j
              by_cases hj : b = j
              · subst hj; rw [Array.getElem?_setIfInBounds_self_of_lt hbl, k1]
              · rw [Array.getElem?_setIfInBounds_ne hj]
            rw [this]
          refine ⟨.tuple #[], w, g, _, .inl ?_, h.put o.dst .dead (.tuple #[]) none hd (.dead _) (fun s hs => by cases hs) (fun sz xs e => by cases e) (by simp), ?_⟩
          · simp only [execOp, hop, resolve, Sem.run_bind, Sem.run_pure, Result.andThen_ok, invoke, builtin, List.map_toArray, List.map_cons, List.map_nil, hxe, Builtin.delete_, ht, run_und hu, hck, List.getElem?_toArray, List.getElem?_cons_zero, List.getElem?_cons_succ,
              getObj_run k1, Instr.findKey, run_und hdd, f1, setObj_run k1, hw]
          · have e1 : (st.put o.dst .dead).hp = st.hp := by cases o.dst <;> rfl
            rw [e1]
            refine Stp.same (fun x hx => ?_) rfl
            rcases mine_put hx with hx | hx
            · exact .inl hx
            · cases hx
      · cases hF
  · cases hF

theorem snd_len2 (h : RS E g oT st a w) (hd : ∀ t, o.dst = some t → t < a.tmps.size) {t kt e : TypeId} {x : Operand} {ts : Array TypeId} {xv : XV} (hx : opnd x = some xv)
    (ht : ts[0]? = some t) (hu : E.P.underlying t = some (.map kt e))
    (hop : o.op = .call { callee := .builtin .len, args := #[x], argTypes := ts }) (hF : opF ⟨o.dst, .len 2 xv, gd⟩ st = some st') : Res E (execOp a.eval o) g oT st.hp a w o.dst st' := by
  have hxr := ev_rep h hx
  simp only [opF, Option.map_eq_some_iff] at hF
  obtain ⟨⟨es, c⟩, hm, rfl⟩ := hF
  generalize hxe : a.eval x = ax at hxr
  refine .pure h _ _ (.int .i64 es.length) hd ?_ (.d (.i _ _)) (fun s hs => absurd hs not_hasLoc_d) (by simp)
  rcases mapAt_spec h hxr hm with ⟨rfl, rfl, _⟩ | ⟨p, b, arr, rfl, hp, hb, k1, k2, k3, k4⟩
  · simp only [execOp, hop, resolve, Sem.run_bind, Sem.run_pure, Result.andThen_ok, invoke, builtin, List.map_toArray, List.map_cons, List.map_nil, hxe, Builtin.len_, ht, run_und hu, List.getElem?_toArray, List.getElem?_cons_zero]
    rfl
  · simp only [execOp, hop, resolve, Sem.run_bind, Sem.run_pure, Result.andThen_ok, invoke, builtin, List.map_toArray, List.map_cons, List.map_nil, hxe, Builtin.len_, ht, run_und hu, List.getElem?_toArray, List.getElem?_cons_zero, getObj_run k1, k2, goInt]

end
end Go.Px

/- What one operation does: all of them. -/
namespace Go.Px
section
variable {E : Env} {g : Gh} {oT : Nat → Option Nat} {st st' : St} {a : Act} {w : World} {o : Oper} {gd : Option (Nat × Bool)}

theorem opF_bad {d : Option Nat} : opF ⟨d, .bad, gd⟩ st = none := rfl
theorem opF_call {d : Option Nat} {f : XV} {xs : List XV} : opF ⟨d, .call f xs, gd⟩ st = none := rfl

theorem op_sound1 (h : RS E g oT st a w) (hd : ∀ t, o.dst = some t → t < a.tmps.size) (hh : Bool) (hF : opF ⟨o.dst, compH E.P hh o, gd⟩ st = some st') (hnc : ∀ c, o.op ≠ .call c) : Res E (execOp a.eval o) g oT st.hp a w o.dst st' := by
  unfold compH at hF
  split at hF
  case h_1 hop =>
    split at hF
    · exact snd_move h hd ‹_› hop hF
    · cases hF
  case h_2 hop =>
    split at hF
    · exact snd_asg h hd ‹_› hop hF
    · cases hF
  case h_3 hop =>
    split at hF
    · exact snd_pick h hd ‹_› ‹_› ‹_› hop hF
    · cases hF
  case h_4 hop =>
    split at hF
    · split at hF
      · cases hh with
        | true => exact snd_allocH h hd ‹_› hop hF
        | false => exact snd_alloc h hd ‹_› ‹_› ‹_› hop hF
      · cases hF
    · cases hF
  case h_5 hop =>
    split at hF
    · cases hh with
      | true => exact snd_boxH h hd ‹_› hop hF
      | false => exact snd_box h hd ‹_› hop hF
    · cases hF
  case h_6 hop =>
    split at hF
    · split at hF
      · split at hF
        · cases hF
        · exact snd_buildS h hd ‹_› ‹_› ‹_› ‹_› ‹_› hop hF
      · cases hF
    · split at hF
      · exact snd_buildA h hd ‹_› ‹_› ‹_› ‹_› hop hF
      · cases hF
    · cases hF
  case h_7 hop =>
    split at hF
    · split at hF
      · split at hF
        · rename_i hc
          exact snd_bsl h hd ‹_› ‹_› ‹_› hc.1 hc.2.1 hc.2.2 ‹_› hop hF
        · cases hF
      · cases hF
    · cases hF
  case h_8 hop =>
    split at hF
    · split at hF
      · rename_i hc
        exact snd_load h hd ‹_› ‹_› ‹_› hc hop hF
      · cases hF
    · cases hF
  case h_9 hop =>
    split at hF
    · exact snd_store h hd ‹_› ‹_› ‹_› hop hF
    · cases hF
  case h_10 hop =>
    split at hF
    · exact snd_nilc h hd ‹_› hop hF
    · cases hF
  case h_11 hop =>
    split at hF
    · unfold compBin at hF
      split at hF
      · exact snd_bin h hd ‹_› ‹_› hop hF
      · exact snd_bin h hd ‹_› ‹_› hop hF
      · split at hF
        · split at hF
          · exact snd_eq h hd ‹_› ‹_› ‹_› (by simp) hop hF
          · exact snd_eq h hd ‹_› ‹_› ‹_› (by simp) hop hF
          · cases hF
        · cases hF
    · cases hF
  case h_12 hop =>
    split at hF
    · exact snd_un h hd ‹_› hop hF
    · cases hF
  case h_13 hop =>
    split at hF
    · unfold compConv at hF
      split at hF
      · exact snd_convI h hd ‹_› ‹_› ‹_› hop hF
      · exact snd_convS h hd ‹_› ‹_› ‹_› hop hF
      · split at hF
        · exact snd_convB h hd ‹_› ‹_› ‹_› ‹_› hop hF
        · cases hF
      · split at hF
        · exact snd_convA h hd ‹_› ‹_› ‹_› ‹_› hop hF
        · cases hF
      · cases hF
    · cases hF
  case h_14 hop =>
    split at hF
    · split at hF
      · exact snd_mkf h hd ‹_› ‹_› hop hF
      · cases hF
    · cases hF
  case h_15 hop =>
    cases hh with
    | true => exact snd_mkmH h hd hop hF
    | false => exact snd_mkm h hd hop hF
  case h_16 hop =>
    split at hF
    · split at hF
      · split at hF
        · rename_i hc
          exact snd_mks h hd ‹_› ‹_› ‹_› ‹_› ‹_› ‹_› hc.1 hc.2.1 hop hF
        · cases hF
      · cases hF
    · cases hF
  case h_17 hop =>
    split at hF
    · split at hF
      · exact snd_slc h hd ‹_› ‹_› ‹_› ‹_› (.inl ⟨rfl, ‹_›⟩) hop hF
      · split at hF
        · rename_i e hu hc
          cases hsz : szP E.P e with
          | none => rw [hsz] at hc; simp at hc
          | some n =>
            rw [hsz] at hF
            exact snd_slc h hd ‹_› ‹_› ‹_› ‹_› (.inr ⟨e, n, rfl, hu, hsz⟩) hop hF
        · cases hF
      · cases hF
    · cases hF
  case h_18 hop =>
    split at hF
    · split at hF
      · exact snd_fad h hd ‹_› ‹_› ‹_› hop hF
      · cases hF
    · cases hF
  case h_19 hop =>
    split at hF
    · split at hF
      · split at hF
        · exact snd_fld h hd ‹_› ‹_› ‹_› ‹_› hop hF
        · cases hF
      · cases hF
    · cases hF
  case h_20 hop =>
    split at hF
    · split at hF
      · exact snd_iadA h hd ‹_› ‹_› ‹_› ‹_› hop hF
      · cases hF
    · split at hF
      · exact snd_iadS h hd ‹_› ‹_› ‹_› ‹_› hop hF
      · cases hF
    · cases hF
  case h_21 hop =>
    split at hF
    · split at hF
      · split at hF
        · exact snd_idx h hd ‹_› ‹_› ‹_› ‹_› ‹_› hop hF
        · cases hF
      · cases hF
    · exact snd_idxs h hd ‹_› ‹_› ‹_› hop hF
    · cases hF
  case h_22 hop =>
    split at hF
    · exact snd_ext h hd ‹_› hop hF
    · cases hF
  case h_23 hop => exact absurd hop (hnc _)
  case h_24 hop => exact absurd hop (hnc _)
  case h_25 hop =>
    split at hF
    · split at hF
      · exact snd_lookup h hd ‹_› ‹_› ‹_› ‹_› ‹_› hop hF
      · cases hF
    · cases hF
  case h_26 hop =>
    split at hF
    · split at hF
      · exact snd_mupd h hd ‹_› ‹_› ‹_› ‹_› ‹_› hop hF
      · cases hF
    · cases hF
  case h_27 => cases hF

end
end Go.Px

/- What one operation does: the builtins. -/
namespace Go.Px
section
variable {E : Env} {g : Gh} {oT : Nat → Option Nat} {st st' : St} {a : Act} {w : World} {o : Oper} {gd : Option (Nat × Bool)}

theorem snd_lenA (h : RS E g oT st a w) (hd : ∀ t, o.dst = some t → t < a.tmps.size) {t e : TypeId} {n : Nat} {x : Operand} {ts : Array TypeId} (ht : ts[0]? = some t) (hu : E.P.underlying t = some (.array n e))
    (hop : o.op = .call { callee := .builtin .len, args := #[x], argTypes := ts }) (hF : opF ⟨o.dst, .mv (.c (.i .i64 n)), gd⟩ st = some st') : Res E (execOp a.eval o) g oT st.hp a w o.dst st' := by
  simp only [opF, owned, ev, Option.some.injEq] at hF
  subst hF
  refine .pure h _ _ (.int .i64 n) hd ?_ (.d (.i _ _)) (fun s hs => absurd hs not_hasLoc_d) (by simp)
  simp only [execOp, hop, resolve, Sem.run_bind, Sem.run_pure, Result.andThen_ok, invoke, builtin, List.map_toArray, List.map_cons, List.map_nil, Builtin.len_, ht, run_und hu, List.getElem?_toArray, List.getElem?_cons_zero, goInt]

theorem allSome_one {f : Operand → Option XV} {args : Array Operand} {x : XV} (h : allSome f args.toList = some [x]) : ∃ y, args = #[y] ∧ f y = some x := by
  obtain ⟨h1, h2⟩ := allSome_spec h
  obtain ⟨y, hy⟩ : ∃ y, args.toList = [y] := List.length_eq_one_iff.1 (by simpa using h1.symm)
  refine ⟨y, by rw [← Array.toArray_toList (xs := args), hy], h2 0 y x (by rw [hy]; rfl) rfl⟩

theorem allSome_two {f : Operand → Option XV} {args : Array Operand} {x y : XV} (h : allSome f args.toList = some [x, y]) : ∃ u v, args = #[u, v] ∧ f u = some x ∧ f v = some y := by
  obtain ⟨h1, h2⟩ := allSome_spec h
  obtain ⟨u, v, hy⟩ : ∃ u v, args.toList = [u, v] := by
    have hl : args.toList.length = 2 := by rw [← h1]; rfl
    generalize args.toList = l at hl
    match l, hl with
    | [u, v], _ => exact ⟨u, v, rfl⟩
  refine ⟨u, v, by rw [← Array.toArray_toList (xs := args), hy], h2 0 u x (by rw [hy]; rfl) rfl, h2 1 v y (by rw [hy]; rfl) rfl⟩

theorem op_sound2 (h : RS E g oT st a w) (hd : ∀ t, o.dst = some t → t < a.tmps.size) {b : Builtin} {args : Array Operand} {ts : Array TypeId} {av : List XV} (hav : allSome opnd args.toList = some av)
    (hop : o.op = .call { callee := .builtin b, args, argTypes := ts }) (hF : opF ⟨o.dst, compBuiltin E.P b ts av, gd⟩ st = some st') : Res E (execOp a.eval o) g oT st.hp a w o.dst st' := by
  have hbind : ∀ {i : Nat} {d : TypeDesc}, (ts[i]?).bind E.P.underlying = some d → ∃ t, ts[i]? = some t ∧ E.P.underlying t = some d := fun {i d} e => by
    simpa [Option.bind_eq_some_iff] using e
  unfold compBuiltin at hF
  split at hF
  case h_1 =>
    obtain ⟨y, rfl, hy⟩ := allSome_one hav
    split at hF
    · obtain ⟨t, ht, hu⟩ := hbind ‹_›; exact snd_lenA h hd ht hu hop hF
    · obtain ⟨t, ht, hu⟩ := hbind ‹_›; exact snd_len0 h hd hy ht hu hop hF
    · obtain ⟨t, ht, hu⟩ := hbind ‹_›; exact snd_len1 h hd hy ht hu hop hF
    · obtain ⟨t, ht, hu⟩ := hbind ‹_›; exact snd_len2 h hd hy ht hu hop hF
    · cases hF
  case h_2 =>
    obtain ⟨u, v, rfl, hu1, hv1⟩ := allSome_two hav
    split at hF
    · rename_i e d e1 e2
      obtain ⟨t0, ht0, hu0⟩ := hbind e1
      obtain ⟨t1, ht1, hu1'⟩ := hbind e2
      split at hF
      · split at hF
        · rename_i hc
          simp only [Bool.and_eq_true, bne_iff_ne, ne_eq, beq_iff_eq] at hc
          exact snd_app h hd hu1 hv1 ht0 ht1 hu0 hu1' (by simp) ‹_› ‹_› hc.1.1.1 hc.1.1.2 hc.2 hop hF
        · cases hF
      · rename_i n m q1 q2
        generalize hgg : (n == 1 && m != 0 && zOk E.P e n && _) = gg at hF
        cases gg with
        | false => cases hF
        | true =>
          have hgg' := hgg
          rw [Bool.and_eq_true, Bool.and_eq_true, Bool.and_eq_true] at hgg'
          obtain ⟨⟨⟨g1, g2⟩, g3⟩, _⟩ := hgg'
          simp only [if_true] at hF
          exact snd_app h hd hu1 hv1 ht0 ht1 hu0 hu1' (by simp) q1 q2 (by simp at g1; omega) (by simpa using g2) g3 hop hF
      · cases hF
    · cases hF
  case h_3 => exact snd_max h hd hav hop hF
  case h_4 => exact snd_min h hd hav hop hF
  case h_5 =>
    obtain ⟨u, v, rfl, hu1, hv1⟩ := allSome_two hav
    split at hF
    · split at hF
      · obtain ⟨t, ht, hu⟩ := hbind ‹_›; exact snd_del h hd ht hu hu1 hv1 ‹_› hop hF
      · cases hF
    · cases hF
  case h_6 => cases hF

/-- Every operation but a call of a value. -/
theorem op_sound (h : RS E g oT st a w) (hd : ∀ t, o.dst = some t → t < a.tmps.size) (esc : Nat → Bool) (hF : opF ⟨o.dst, compK E.P esc o, gd⟩ st = some st') : Res E (execOp a.eval o) g oT st.hp a w o.dst st' := by
  by_cases hc : ∃ c, o.op = .call c
  · obtain ⟨⟨callee, args, ts⟩, hop⟩ := hc
    unfold compK compH at hF
    rw [hop] at hF
    cases callee with
    | value f =>
      simp only at hF
      split at hF <;> cases hF
    | builtin b =>
      simp only at hF
      split at hF
      · exact op_sound2 h hd ‹_› hop hF
      · cases hF
    | invoke x n => cases hF
  · exact op_sound1 h hd _ hF fun c e => hc ⟨c, e⟩

end
end Go.Px

/- Regions: one operation's step, and what is forgotten between regions. -/
namespace Go.Px
section
variable {E : Env} {g : Gh} {oT : Nat → Option Nat} {st st' : St} {a : Act} {w : World} {o : Oper} {gd : Option (Nat × Bool)}

theorem RS.cut (h : RS E g oT st a w) : RS E g oT st.cut a w :=
  ⟨h.m, h.tm, h.ot, h.on, h.oi, fun t l hl => by simp [St.cut] at hl, h.clT, h.clB, fun t r off hl => by simp [St.cut] at hl⟩

theorem op_wp {F : Fence} (hF : ∀ f, F.fn f) {n : Nat} {h0 : Option (List BObj)} {next : Act → World → Prop} {Q : Exit → Act → World → Prop} (hnd : ∀ c, o.op ≠ .defer c) (h : Res E (execOp a.eval o) g oT h0 a w o.dst st')
    (hn : ∀ v w' g' oT', RS E g' oT' st' (a.put o.dst v) w' → Stp g oT h0 w g' oT' st'.hp w' → next (a.put o.dst v) w') : o.wpIn F n E.P a w next Q := by
  obtain ⟨v, w', g', oT', hr, hR, hS⟩ := h
  refine ⟨fun f _ => hF f, ?_⟩
  rw [Oper.semAt_eq _ _ _ hnd]
  rcases hr with hr | ⟨hr, rfl⟩
  · rw [hr]; exact hn v w' g' oT' hR hS
  · rw [hr]; exact hn _ w' g' oT' hR hS

/-- What a guard reads. -/
theorem guard_read (h : RS E g oT st a w) {ops : Array Oper} {j t : Nat} {x : Bool} (hj : (ops[j]?).bind (·.dst) = some t) (ht : t < a.tmps.size) (hg : getT st.tm t = .d (.b x)) : yielded ops a.tmps j = some x := by
  have hr := h.tm t
  rw [hg] at hr
  have hr := hr.d_inv
  have e : a.tmps[t]? = some (a.tmps.getD t undef) := by
    rw [Array.getD_eq_getD_getElem?, Array.getElem?_eq_getElem ht]; rfl
  generalize a.tmps.getD t undef = v at hr e
  cases hr
  simp only [yielded, hj, Option.bind_some, e]

/-- .. where what it would read was not wanted itself. -/
theorem guard_none (h : RS E g oT st a w) {ops : Array Oper} {j t : Nat} {l : List AV} (hj : (ops[j]?).bind (·.dst) = some t) (ht : t < a.tmps.size) (hg : getT st.tm t = .tup l) : yielded ops a.tmps j = none := by
  have hr := h.tm t
  rw [hg] at hr
  have e : a.tmps[t]? = some (a.tmps.getD t undef) := by
    rw [Array.getD_eq_getD_getElem?, Array.getElem?_eq_getElem ht]; rfl
  generalize a.tmps.getD t undef = v at hr e
  cases hr
  simp only [yielded, hj, Option.bind_some, e]

/-- An operation that is not wanted. -/
theorem RS.skip (h : RS E g oT st a w) (d : Option Nat) (hd : ∀ t, d = some t → t < a.tmps.size) : RS E g (fun t => if d = some t then none else oT t) (st.put d (.tup [])) (a.put d undef) w :=
  h.put d (.tup []) undef none hd (.tup rfl (fun j c v hj => by simp at hj)) (fun s hs => by cases hs with | tup hc _ => cases hc) (fun sz xs e => by cases e) (by simp)

end
end Go.Px

/- What is kept at a loop's head. -/
namespace Go.Px
section
variable {E : Env} {g : Gh} {oT : Nat → Option Nat} {st st' : St} {a : Act} {w : World}

theorem getT_keepL (ts : List Nat) (l : List (Nat × AV)) (n : Nat) : getT (keepL ts l) n = if inL ts n then getT l n else .dead := by
  induction l with
  | nil => simp [keepL, getT]
  | cons p l ih =>
    obtain ⟨k, v⟩ := p
    simp only [keepL]
    by_cases hk : inL ts k = true
    · rw [if_pos hk]
      simp only [getT, ih]
      by_cases h : k = n
      · subst h; simp [hk]
      · simp [h]
    · rw [if_neg hk, ih]
      by_cases h : k = n
      · subst h; simp [hk]
      · simp [getT, h]

theorem frGet_keepL (bs : List Nat) (l : Frm) (n : Nat) : frGet (keepL bs l) n = if inL bs n then frGet l n else none := by
  induction l with
  | nil => simp [keepL, frGet]
  | cons p l ih =>
    obtain ⟨k, v⟩ := p
    simp only [keepL]
    by_cases hk : inL bs k = true
    · rw [if_pos hk]
      simp only [frGet, ih]
      by_cases h : k = n
      · subst h; simp [hk]
      · simp [h]
    · rw [if_neg hk, ih]
      by_cases h : k = n
      · subst h; simp [hk]
      · simp [frGet, h]

theorem okInL_mem {bx : Frm} : ∀ {l : List AV}, AV.okInL bx l = true → ∀ c ∈ l, c.okIn bx = true := by
  intro l
  induction l with
  | nil => intro _ c hc; cases hc
  | cons a l ih =>
    intro h c hc
    simp only [AV.okInL, Bool.and_eq_true] at h
    cases hc with
    | head => exact h.1
    | tail _ hc => exact ih h.2 c hc

theorem okIn_loc {bx : Frm} {c : AV} {s : Nat} (hl : HasLoc c s) (h : c.okIn bx = true) : frGet bx s ≠ none := by
  induction hl with
  | @bp r s off hs =>
    cases r with
    | loc s' => simp only [Ref.locs, List.mem_singleton] at hs; subst hs; simp only [AV.okIn] at h; intro e; rw [e] at h; cases h
    | up r => simp [Ref.locs] at hs
  | @mb r s hs =>
    cases r with
    | loc s' => simp only [Ref.locs, List.mem_singleton] at hs; subst hs; simp only [AV.okIn] at h; intro e; rw [e] at h; cases h
    | up r => simp [Ref.locs] at hs
  | @it r s hs =>
    cases r with
    | loc s' => simp only [Ref.locs, List.mem_singleton] at hs; subst hs; simp only [AV.okIn] at h; intro e; rw [e] at h; cases h
    | up r => simp [Ref.locs] at hs
  | fn hc _ ih => simp only [AV.okIn] at h; exact ih (okInL_mem h _ hc)
  | tup hc _ ih => simp only [AV.okIn] at h; exact ih (okInL_mem h _ hc)

theorem tmOk_loc {bx : Frm} : ∀ {l : List (Nat × AV)}, tmOk bx l = true → ∀ t s, HasLoc (getT l t) s → frGet bx s ≠ none := by
  intro l
  induction l with
  | nil => intro _ t s hs; cases hs
  | cons p l ih =>
    obtain ⟨k, v⟩ := p
    intro h t s hs
    simp only [tmOk, Bool.and_eq_true] at h
    simp only [getT] at hs
    split at hs
    · exact okIn_loc hs h.1
    · exact ih h.2 t s hs

theorem bxOk_loc {bx : Frm} : ∀ {l : Frm}, bxOk bx l = true → ∀ s cs, frGet l s = some (.cells cs) → ∀ c ∈ cs, ∀ s', HasLoc c s' → frGet bx s' ≠ none := by
  intro l
  induction l with
  | nil => intro _ s cs hs; cases hs
  | cons p l ih =>
    obtain ⟨k, v⟩ := p
    intro h s cs hs c hc s' hl
    simp only [frGet] at hs
    split at hs
    · cases hs
      simp only [bxOk, Bool.and_eq_true] at h
      exact okIn_loc hl (okInL_mem h.1 c hc)
    · have h2 : bxOk bx l = true := by
        cases v with
        | cells cs' => simp only [bxOk, Bool.and_eq_true] at h; exact h.2
        | map es k => simpa [bxOk] using h
        | iter m s t => simpa [bxOk] using h
      exact ih h2 s cs hs c hc s' hl

/-- All but these is forgotten. -/
theorem RS.res (h : RS E g oT st a w) (ts bs : List Nat) (hok : (st.res ts bs).ok = true) : RS E g oT (st.res ts bs) a w := by
  simp only [St.ok, okSt, Bool.and_eq_true] at hok
  have hget : ∀ r o, refGet (st.res ts bs).frs r = some o → refGet st.frs r = some o := by
    intro r o hr
    cases r with
    | loc s =>
      simp only [St.frs, St.res, refGet, frGet_keepL] at hr ⊢
      split at hr
      · exact hr
      · cases hr
    | up r => exact hr
  refine ⟨⟨h.m.below, h.m.len, h.m.hlen, fun p o hp => h.m.con p o ?_, h.m.nd, h.m.new, h.m.own, h.m.inj, h.m.lt⟩, ?_, ?_, h.on, h.oi, fun t l hl => by simp [St.res] at hl, fun t s hs => tmOk_loc hok.1 t s hs, fun s cs hs c hc s' hl => bxOk_loc hok.2 s cs hs c hc s' hl, fun t r off hl => by simp [St.res] at hl⟩
  · cases p with
    | fr r => exact hget r o hp
    | ob i => exact hp
  · intro t
    simp only [St.res, getT_keepL]
    split
    · exact h.tm t
    · exact .dead _
  · intro t sz xs e
    simp only [St.res, getT_keepL] at e
    split at e
    · exact h.ot t sz xs e
    · cases e

end
end Go.Px

