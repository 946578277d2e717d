/- The abstract machine, a part of it: no statement of the claim's own. -/
import Derived.Test.YtcldjplopgmjgaaDoorPxE

/- Draws: what one operation changes; the changes of two states held against each other. -/
namespace Go.Px

/-! ### Copies -/

def CpU (cp : List (Nat × OL)) : Prop := cp.Pairwise fun p q => p.1 ≠ q.1

theorem cpGet_iff {cp : List (Nat × OL)} (h : CpU cp) (n : Nat) (l : OL) : cpGet cp n = some l ↔ (n, l) ∈ cp := by
  induction cp with
  | nil => simp [cpGet]
  | cons p r ih =>
    obtain ⟨b, m⟩ := p
    have h' := List.pairwise_cons.1 h
    simp only [cpGet, List.mem_cons, Prod.mk.injEq]
    split
    · rename_i e
      subst e
      constructor
      · intro e; cases e; exact .inl ⟨rfl, rfl⟩
      · rintro (⟨_, rfl⟩ | hm)
        · rfl
        · exact absurd rfl (h'.1 (b, l) hm)
    · rename_i hne
      rw [ih h'.2]
      constructor
      · exact .inr
      · rintro (⟨rfl, _⟩ | hm)
        · exact absurd rfl hne
        · exact hm

theorem cpGet_filter {cp cp' : List (Nat × OL)} (h : CpU cp) (h' : CpU cp') {q : OL → Bool} {n : Nat} (hm : ∀ l, (n, l) ∈ cp' ↔ (n, l) ∈ cp ∧ q l = true) : cpGet cp' n = (cpGet cp n).filter q := by
  apply Option.ext
  intro l
  rw [cpGet_iff h', hm, Option.filter_eq_some_iff, cpGet_iff h]

theorem rmT_sub (cp : List (Nat × OL)) (t : Nat) : (rmT cp t).Sublist cp := by
  induction cp with
  | nil => exact .slnil
  | cons p r ih =>
    obtain ⟨a, l⟩ := p
    simp only [rmT]
    split
    · exact ih.cons _
    · exact ih.cons_cons _

theorem rmC_sub (cp : List (Nat × OL)) : (rmC cp).Sublist cp := by
  induction cp with
  | nil => exact .slnil
  | cons p r ih =>
    obtain ⟨a, l⟩ := p
    cases l with
    | t n => exact ih.cons_cons _
    | c r' o => exact ih.cons _
    | o b o => exact ih.cons _

theorem mem_rmT_iff {cp : List (Nat × OL)} {t : Nat} {e : Nat × OL} : e ∈ rmT cp t ↔ e ∈ cp ∧ e.1 ≠ t ∧ e.2 ≠ .t t := by
  constructor
  · exact mem_rmT
  · rintro ⟨h, h1, h2⟩
    induction cp with
    | nil => cases h
    | cons p r ih =>
      obtain ⟨a, l⟩ := p
      simp only [rmT]
      rcases List.mem_cons.1 h with rfl | h
      · rw [if_neg (by simp only [not_or]; exact ⟨h1, h2⟩)]; exact List.mem_cons_self
      · split
        · exact ih h
        · exact List.mem_cons_of_mem _ (ih h)

def OL.isT : OL → Bool
  | .t _ => true
  | _ => false

theorem mem_rmC_iff {cp : List (Nat × OL)} {e : Nat × OL} : e ∈ rmC cp ↔ e ∈ cp ∧ e.2.isT = true := by
  induction cp with
  | nil => simp [rmC]
  | cons p r ih =>
    obtain ⟨a, l⟩ := p
    cases l with
    | t n =>
      simp only [rmC, List.mem_cons, ih]
      constructor
      · rintro (rfl | h)
        · exact ⟨.inl rfl, rfl⟩
        · exact ⟨.inr h.1, h.2⟩
      · rintro ⟨rfl | h, h2⟩
        · exact .inl rfl
        · exact .inr ⟨h, h2⟩
    | c r' o =>
      simp only [rmC, List.mem_cons, ih]
      constructor
      · rintro h; exact ⟨.inr h.1, h.2⟩
      · rintro ⟨rfl | h, h2⟩
        · cases h2
        · exact ⟨h, h2⟩
    | o b o =>
      simp only [rmC, List.mem_cons, ih]
      constructor
      · rintro h; exact ⟨.inr h.1, h.2⟩
      · rintro ⟨rfl | h, h2⟩
        · cases h2
        · exact ⟨h, h2⟩

theorem inCp_mem {cp : List (Nat × OL)} {a : Nat} {l : OL} {e : Nat × OL} : e ∈ inCp cp a l ↔ e = (a, l) ∨ e ∈ cp := by
  induction cp with
  | nil => simp [inCp]
  | cons p r ih =>
    obtain ⟨b, m⟩ := p
    simp only [inCp]
    split
    · simp
    · simp only [List.mem_cons, ih]
      constructor
      · rintro (h | h | h)
        · exact .inr (.inl h)
        · exact .inl h
        · exact .inr (.inr h)
      · rintro (h | h | h)
        · exact .inr (.inl h)
        · exact .inl h
        · exact .inr (.inr h)

theorem inCp_u {cp : List (Nat × OL)} (h : CpU cp) {a : Nat} {l : OL} (hn : ∀ e ∈ cp, e.1 ≠ a) : CpU (inCp cp a l) := by
  induction cp with
  | nil => exact List.pairwise_cons.2 ⟨by simp, List.Pairwise.nil⟩
  | cons p r ih =>
    obtain ⟨b, m⟩ := p
    have h' := List.pairwise_cons.1 h
    simp only [inCp]
    split
    · exact List.pairwise_cons.2 ⟨fun e he => (hn e he).symm, h⟩
    · refine List.pairwise_cons.2 ⟨fun e he => ?_, ih h'.2 (fun e he => hn e (List.mem_cons_of_mem _ he))⟩
      rcases inCp_mem.1 he with rfl | he
      · exact hn _ List.mem_cons_self
      · exact h'.1 e he

/-! ### The changes -/

/-- Is a copy still told? -/
def kpt (d : Option Nat) (f : Bool) : OL → Bool
  | .t m => d != some m
  | _ => !f

/-- What turns in s to s', turns alike in t to t'; all else stays. -/
structure Pt (d : Option Nat) (L B : List Nat) (u h f : Bool) (s s' t t' : St) : Prop where
  dv : ∀ n, d = some n → getT t'.tm n = getT s'.tm n
  ow : ∀ n, d ≠ some n → n ∈ L → getT t'.tm n = getT s'.tm n ∧ (getT s'.tm n).strip = (getT s.tm n).strip ∧ (getT t'.tm n).strip = (getT t.tm n).strip
  nt : ∀ n, d ≠ some n → n ∉ L → getT s'.tm n = getT s.tm n ∧ getT t'.tm n = getT t.tm n
  bw : ∀ r, r ∈ B → frGet t'.bx r = frGet s'.bx r
  bn : ∀ r, r ∉ B → frGet s'.bx r = frGet s.bx r ∧ frGet t'.bx r = frGet t.bx r
  uw : u = true → t'.up = s'.up
  un : u = false → s'.up = s.up ∧ t'.up = t.up
  hw : h = true → t'.hp = s'.hp
  hn : h = false → s'.hp = s.hp ∧ t'.hp = t.hp
  cd : ∀ n, d = some n → cpGet t'.cp n = cpGet s'.cp n
  cn : ∀ n, d ≠ some n → cpGet s'.cp n = (cpGet s.cp n).filter (kpt d f) ∧ cpGet t'.cp n = (cpGet t.cp n).filter (kpt d f)
  su : CpU s'.cp
  tu : CpU t'.cp

theorem filter_true {x : Option OL} {q : OL → Bool} (h : ∀ l, q l = true) : x.filter q = x := by
  cases x with
  | none => rfl
  | some l => simp [Option.filter, h]

theorem kpt_none (l : OL) : kpt none false l = true := by cases l <;> rfl

section
variable {d : Option Nat} {L B L' B' : List Nat} {u h f u' h' f' : Bool} {s s1 s2 s' t t1 t2 t' : St}

/-- Nothing turns. -/
theorem Pt.refl (hs : CpU s.cp) (ht : CpU t.cp) : Pt none [] [] false false false s s t t :=
  ⟨fun n e => (by cases e), fun n _ e => (by cases e), fun n _ _ => ⟨rfl, rfl⟩, fun r e => (by cases e), fun r _ => ⟨rfl, rfl⟩, fun e => (by cases e), fun _ => ⟨rfl, rfl⟩, fun e => (by cases e), fun _ => ⟨rfl, rfl⟩, fun n e => (by cases e),
    fun n _ => ⟨(filter_true kpt_none).symm, (filter_true kpt_none).symm⟩, hs, ht⟩

theorem filter_filter (x : Option OL) (d : Option Nat) (f f' : Bool) : (x.filter (kpt none f)).filter (kpt d f') = x.filter (kpt d (f || f')) := by
  cases x with
  | none => rfl
  | some l => cases l <;> cases f <;> cases f' <;> simp [Option.filter, kpt]

theorem Pt.trans (a : Pt none L B u h f s s1 t t1) (b : Pt d L' B' u' h' f' s1 s2 t1 t2) : Pt d (L ++ L') (B ++ B') (u || u') (h || h') (f || f') s s2 t t2 := by
  refine ⟨b.dv, ?_, ?_, ?_, ?_, ?_, ?_, ?_, ?_, b.cd, ?_, b.su, b.tu⟩
  · intro n hd hm
    by_cases h2 : n ∈ L'
    · obtain ⟨b1, b2, b3⟩ := b.ow n hd h2
      by_cases h1 : n ∈ L
      · obtain ⟨a1, a2, a3⟩ := a.ow n (by simp) h1
        exact ⟨b1, b2.trans a2, b3.trans a3⟩
      · obtain ⟨a1, a2⟩ := a.nt n (by simp) h1
        exact ⟨b1, by rw [b2, a1], by rw [b3, a2]⟩
    · obtain ⟨b1, b2⟩ := b.nt n hd h2
      have h1 : n ∈ L := (List.mem_append.1 hm).resolve_right h2
      obtain ⟨a1, a2, a3⟩ := a.ow n (by simp) h1
      exact ⟨by rw [b1, b2]; exact a1, by rw [b1]; exact a2, by rw [b2]; exact a3⟩
  · intro n hd hm
    simp only [List.mem_append, not_or] at hm
    obtain ⟨b1, b2⟩ := b.nt n hd hm.2
    obtain ⟨a1, a2⟩ := a.nt n (by simp) hm.1
    exact ⟨b1.trans a1, b2.trans a2⟩
  · intro r hm
    by_cases h2 : r ∈ B'
    · exact b.bw r h2
    · obtain ⟨b1, b2⟩ := b.bn r h2
      rw [b1, b2]; exact a.bw r ((List.mem_append.1 hm).resolve_right h2)
  · intro r hm
    simp only [List.mem_append, not_or] at hm
    obtain ⟨b1, b2⟩ := b.bn r hm.2
    obtain ⟨a1, a2⟩ := a.bn r hm.1
    exact ⟨b1.trans a1, b2.trans a2⟩
  · intro hu
    cases hu' : u' with
    | true => exact b.uw hu'
    | false =>
      obtain ⟨b1, b2⟩ := b.un hu'
      rw [b1, b2]; exact a.uw (by simpa [hu'] using hu)
  · intro hu
    simp only [Bool.or_eq_false_iff] at hu
    obtain ⟨b1, b2⟩ := b.un hu.2
    obtain ⟨a1, a2⟩ := a.un hu.1
    exact ⟨b1.trans a1, b2.trans a2⟩
  · intro hu
    cases hu' : h' with
    | true => exact b.hw hu'
    | false =>
      obtain ⟨b1, b2⟩ := b.hn hu'
      rw [b1, b2]; exact a.hw (by simpa [hu'] using hu)
  · intro hu
    simp only [Bool.or_eq_false_iff] at hu
    obtain ⟨b1, b2⟩ := b.hn hu.2
    obtain ⟨a1, a2⟩ := a.hn hu.1
    exact ⟨b1.trans a1, b2.trans a2⟩
  · intro n hd
    obtain ⟨b1, b2⟩ := b.cn n hd
    obtain ⟨a1, a2⟩ := a.cn n (by simp)
    rw [b1, b2, a1, a2]
    exact ⟨filter_filter _ _ _ _, filter_filter _ _ _ _⟩

theorem rmT_u {cp : List (Nat × OL)} (h : CpU cp) (n : Nat) : CpU (rmT cp n) := List.Pairwise.sublist (rmT_sub _ _) h

theorem cp_put (hs : CpU s.cp) {m : Nat} {n : Nat} (hne : m ≠ n) (v : AV) : cpGet (s.put (some m) v).cp n = (cpGet s.cp n).filter (kpt (some m) false) := by
  refine cpGet_filter hs (rmT_u hs m) fun l => ?_
  rw [mem_rmT_iff]
  constructor
  · rintro ⟨h1, h2, h3⟩
    refine ⟨h1, ?_⟩
    cases l with
    | t k => simp only [kpt, bne_iff_ne, ne_eq, Option.some.injEq]; rintro rfl; exact h3 rfl
    | _ => rfl
  · rintro ⟨h1, h2⟩
    refine ⟨h1, fun e => hne e.symm, fun e => ?_⟩
    simp only at e
    subst e
    simp [kpt] at h2

theorem cp_put_self {m : Nat} (hs : CpU s.cp) (v : AV) : cpGet (s.put (some m) v).cp m = none := by
  cases h : cpGet (s.put (some m) v).cp m with
  | none => rfl
  | some l =>
    have := (cpGet_iff (rmT_u hs m) m l).1 h
    exact absurd rfl (mem_rmT_iff.1 this).2.1

/-- A slot is written. -/
theorem Pt.put (hs : CpU s.cp) (ht : CpU t.cp) (d : Option Nat) (v : AV) : Pt d [] [] false false false s (s.put d v) t (t.put d v) := by
  cases d with
  | none => exact .refl hs ht
  | some m =>
    refine ⟨fun n e => ?_, fun n _ e => (by cases e), fun n e _ => ?_, fun r e => (by cases e), fun r _ => ⟨rfl, rfl⟩, fun e => (by cases e), fun _ => ⟨rfl, rfl⟩, fun e => (by cases e), fun _ => ⟨rfl, rfl⟩, fun n e => ?_, fun n e => ?_, rmT_u hs m, rmT_u ht m⟩
    · cases e; simp [St.put, getT_setT]
    · have hne : m ≠ n := fun h => e (by rw [h])
      simp [St.put, getT_setT, hne]
    · cases e; rw [cp_put_self hs, cp_put_self ht]
    · have hne : m ≠ n := fun h => e (by rw [h])
      exact ⟨cp_put hs hne v, cp_put ht hne v⟩

/-- A slot is written, and told to be a copy. -/
theorem Pt.putc (hs : CpU s.cp) (ht : CpU t.cp) (d : Option Nat) (v : AV) (l : OL) : Pt d [] [] false false false s ((s.put d v).copied d l) t ((t.put d v).copied d l) := by
  cases d with
  | none => exact .refl hs ht
  | some m =>
    have hno : ∀ {s : St}, CpU s.cp → ∀ e ∈ (s.put (some m) v).cp, e.1 ≠ m := fun hs e he => (mem_rmT_iff.1 he).2.1
    have hu : ∀ {s : St}, CpU s.cp → CpU ((s.put (some m) v).copied (some m) l).cp := fun hs => inCp_u (rmT_u hs m) (hno hs)
    have hself : ∀ {s : St}, CpU s.cp → cpGet ((s.put (some m) v).copied (some m) l).cp m = some l := fun hs => (cpGet_iff (hu hs) m l).2 (inCp_mem.2 (.inl rfl))
    have hoth : ∀ {s : St}, CpU s.cp → ∀ n, m ≠ n → cpGet ((s.put (some m) v).copied (some m) l).cp n = (cpGet s.cp n).filter (kpt (some m) false) := fun {s} hs n hne => by
      rw [← cp_put hs hne v]
      apply Option.ext
      intro l'
      rw [cpGet_iff (hu hs), cpGet_iff (cp := (s.put (some m) v).cp) (rmT_u hs m)]
      constructor
      · intro h
        rcases inCp_mem.1 h with e | e
        · cases e; exact absurd rfl hne
        · exact e
      · intro h; exact inCp_mem.2 (.inr h)
    have hp := Pt.put hs ht (some m) v
    refine ⟨hp.dv, hp.ow, hp.nt, hp.bw, hp.bn, hp.uw, hp.un, hp.hw, hp.hn, fun n e => ?_, fun n e => ?_, hu hs, hu ht⟩
    · cases e; rw [hself hs, hself ht]
    · have hne : m ≠ n := fun h => e (by rw [h])
      exact ⟨hoth hs n hne, hoth ht n hne⟩

/-- A slot's tail is given away. -/
theorem Pt.lose (hs : CpU s.cp) (ht : CpU t.cp) {n : Nat} (he : getT s.tm n = getT t.tm n) : Pt none [n] [] false false false s (s.lose n) t (t.lose n) := by
  refine ⟨fun n e => (by cases e), fun m _ e => ?_, fun m _ e => ?_, fun r e => (by cases e), fun r _ => ⟨rfl, rfl⟩, fun e => (by cases e), fun _ => ⟨rfl, rfl⟩, fun e => (by cases e), fun _ => ⟨rfl, rfl⟩, fun n e => (by cases e),
    fun n _ => ⟨(filter_true kpt_none).symm, (filter_true kpt_none).symm⟩, hs, ht⟩
  · simp only [List.mem_singleton] at e
    subst e
    have hss : ∀ v : AV, v.strip.strip = v.strip := fun v => by cases v <;> rfl
    simp only [St.lose, getT_setT, if_true, he, hss, and_self]
  · simp only [List.mem_singleton] at e
    have hne : n ≠ m := fun h => e h.symm
    simp [St.lose, getT_setT, hne]

theorem Pt.box (hs : CpU s.cp) (ht : CpU t.cp) {r : Nat} {bs bt : Frm} {o : Option BObj} (h1 : ∀ n, frGet bs n = if r = n then o else frGet s.bx n) (h2 : ∀ n, frGet bt n = if r = n then o else frGet t.bx n) :
    Pt none [] [r] false false false s { s with bx := bs } t { t with bx := bt } := by
  refine ⟨fun n e => (by cases e), fun n _ e => (by cases e), fun n _ _ => ⟨rfl, rfl⟩, fun n e => ?_, fun n e => ?_, fun e => (by cases e), fun _ => ⟨rfl, rfl⟩, fun e => (by cases e), fun _ => ⟨rfl, rfl⟩, fun n e => (by cases e),
    fun n _ => ⟨(filter_true kpt_none).symm, (filter_true kpt_none).symm⟩, hs, ht⟩
  · simp only [List.mem_singleton] at e
    subst e
    simp only [h1, h2, if_true]
  · simp only [List.mem_singleton] at e
    have hne : r ≠ n := fun h => e h.symm
    simp only [h1, h2, if_neg hne, and_self]

theorem Pt.upd (hs : CpU s.cp) (ht : CpU t.cp) (x : List Frm) : Pt none [] [] true false false s { s with up := x } t { t with up := x } :=
  ⟨fun n e => (by cases e), fun n _ e => (by cases e), fun n _ _ => ⟨rfl, rfl⟩, fun r e => (by cases e), fun r _ => ⟨rfl, rfl⟩, fun _ => rfl, fun e => (by cases e), fun e => (by cases e), fun _ => ⟨rfl, rfl⟩, fun n e => (by cases e),
    fun n _ => ⟨(filter_true kpt_none).symm, (filter_true kpt_none).symm⟩, hs, ht⟩

theorem Pt.hpd (hs : CpU s.cp) (ht : CpU t.cp) (x : Option (List BObj)) : Pt none [] [] false true false s { s with hp := x } t { t with hp := x } :=
  ⟨fun n e => (by cases e), fun n _ e => (by cases e), fun n _ _ => ⟨rfl, rfl⟩, fun r e => (by cases e), fun r _ => ⟨rfl, rfl⟩, fun e => (by cases e), fun _ => ⟨rfl, rfl⟩, fun _ => rfl, fun e => (by cases e), fun n e => (by cases e),
    fun n _ => ⟨(filter_true kpt_none).symm, (filter_true kpt_none).symm⟩, hs, ht⟩

theorem cp_rmC (hs : CpU s.cp) (n : Nat) : cpGet (rmC s.cp) n = (cpGet s.cp n).filter (kpt none true) := by
  refine cpGet_filter hs (List.Pairwise.sublist (rmC_sub _) hs) fun l => ?_
  rw [mem_rmC_iff]
  cases l <;> simp [kpt, OL.isT]

theorem Pt.rmC (hs : CpU s.cp) (ht : CpU t.cp) : Pt none [] [] false false true s { s with cp := Px.rmC s.cp } t { t with cp := Px.rmC t.cp } :=
  ⟨fun n e => (by cases e), fun n _ e => (by cases e), fun n _ _ => ⟨rfl, rfl⟩, fun r e => (by cases e), fun r _ => ⟨rfl, rfl⟩, fun e => (by cases e), fun _ => ⟨rfl, rfl⟩, fun e => (by cases e), fun _ => ⟨rfl, rfl⟩, fun n e => (by cases e),
    fun n _ => ⟨cp_rmC hs n, cp_rmC ht n⟩, List.Pairwise.sublist (rmC_sub _) hs, List.Pairwise.sublist (rmC_sub _) ht⟩

end
end Go.Px

/- Draws: an operation looks at its own places alone. -/
namespace Go.Px

structure Ag (T : List Nat) (R : List ALoc) (s t : St) : Prop where
  ts : ∀ n ∈ T, (getT s.tm n).strip = (getT t.tm n).strip
  ow : ∀ n, ALoc.own n ∈ R → getT s.tm n = getT t.tm n
  bx : ∀ r, ALoc.box r ∈ R → frGet s.bx r = frGet t.bx r
  up : ALoc.up ∈ R → s.up = t.up
  hp : ALoc.hp ∈ R → s.hp = t.hp
  cf : ∀ n, ALoc.cf n ∈ R → cpGet s.cp n = cpGet t.cp n
  any : ALoc.any ∈ R → ∀ n, cpGet s.cp n = cpGet t.cp n

/-- Where a copy was made from has been looked at. -/
def srcIn (R : List ALoc) : OL → Prop
  | .t m => ALoc.own m ∈ R
  | _ => ALoc.fct ∈ R

def FctOk (d : Option Nat) (R : List ALoc) (s : St) : Prop := ∀ n, d = some n → ∀ l, cpGet s.cp n = some l → srcIn R l

structure Moves (d : Option Nat) (a : List ALoc × List ALoc) (s s' t t' : St) : Prop where
  ex : ∃ L B u h f, Pt d L B u h f s s' t t' ∧ (∀ n ∈ L, ALoc.own n ∈ a.2) ∧ (∀ r ∈ B, ALoc.box r ∈ a.2) ∧ (u = true → ALoc.up ∈ a.2) ∧ (h = true → ALoc.hp ∈ a.2) ∧ (f = true → ALoc.fct ∈ a.2)
  fs : FctOk d a.1 s'
  ft : FctOk d a.1 t'

section
variable {d : Option Nat} {k : XK} {g : Option (Nat × Bool)} {s t s' : St} {a : List ALoc × List ALoc}

theorem fct_put (hs : CpU s.cp) (d : Option Nat) (v : AV) (R : List ALoc) : FctOk d R (s.put d v) := by
  intro n e l hl
  subst e
  rw [cp_put_self hs] at hl; cases hl

theorem moves_put (hs : CpU s.cp) (ht : CpU t.cp) (d : Option Nat) (v : AV) (a : List ALoc × List ALoc) : Moves d a s (s.put d v) t (t.put d v) :=
  ⟨⟨[], [], false, false, false, .put hs ht d v, (fun n h => by cases h), (fun n h => by cases h), (fun h => by cases h), (fun h => by cases h), (fun h => by cases h)⟩, fct_put hs d v _, fct_put ht d v _⟩

/-- What is asked of each operation. -/
def LocC (d : Option Nat) (k : XK) (g : Option (Nat × Bool)) (s t s' : St) : Prop :=
  ∃ t', opF ⟨d, k, g⟩ t = some t' ∧ accOf t ⟨d, k, g⟩ = accOf s ⟨d, k, g⟩ ∧ Moves d (accOf s ⟨d, k, g⟩) s s' t t'

theorem pure_case (hs : CpU s.cp) (ht : CpU t.cp) {pv : Option AV} (h1 : opF ⟨d, k, g⟩ s = pv.map fun v => s.put d v) (h2 : opF ⟨d, k, g⟩ t = pv.map fun v => t.put d v)
    (ha : accOf t ⟨d, k, g⟩ = accOf s ⟨d, k, g⟩) (h : opF ⟨d, k, g⟩ s = some s') : LocC d k g s t s' := by
  rw [h1, Option.map_eq_some_iff] at h
  obtain ⟨v, hv, rfl⟩ := h
  exact ⟨t.put d v, by rw [h2, hv]; rfl, ha, moves_put hs ht d v _⟩

theorem Ag.ev {T : List Nat} {R : List ALoc} (h : Ag T R s t) (x : XV) (hx : ∀ n ∈ xvT x, n ∈ T) : Px.ev t x = Px.ev s x := by
  cases x with
  | t n => exact (h.ts n (hx n (by simp [xvT]))).symm
  | c v => rfl
  | f f => rfl

theorem Ag.owned {T : List Nat} {R : List ALoc} (h : Ag T R s t) (x : XV) (hx : ∀ l ∈ ownLoc x, l ∈ R) : Px.owned t x = Px.owned s x := by
  cases x with
  | t n => simp only [Px.owned, h.ow n (hx _ (by simp [ownLoc]))]
  | c v => rfl
  | f f => rfl

theorem map_ev {T : List Nat} {R : List ALoc} (h : Ag T R s t) (l : List XV) (hx : ∀ n ∈ l.flatMap xvT, n ∈ T) : l.map (ev t) = l.map (ev s) := by
  apply List.map_congr_left
  intro x hx'
  exact h.ev x fun n hn => hx n (List.mem_flatMap.2 ⟨x, hx', hn⟩)

theorem bldD_ev {T : List Nat} {R : List ALoc} (h : Ag T R s t) : ∀ (l : List (Nat × Nat × XV)) (z : List DV), (∀ n ∈ l.flatMap (fun p => xvT p.2.2), n ∈ T) → bldD t z l = bldD s z l := by
  intro l
  induction l with
  | nil => intro z _; rfl
  | cons p l ih =>
    obtain ⟨o, n, x⟩ := p
    intro z hx
    simp only [List.flatMap_cons, List.mem_append] at hx
    simp only [bldD, h.ev x fun n hn => hx n (.inl hn)]
    split
    · rw [ih _ fun n hn => hx n (.inr hn)]
    · rfl

theorem bslD_ev {T : List Nat} {R : List ALoc} (h : Ag T R s t) (m : Nat) : ∀ (l : List (Nat × XV)) (z : List DV), (∀ n ∈ l.flatMap (fun p => xvT p.2), n ∈ T) → bslD t m z l = bslD s m z l := by
  intro l
  induction l with
  | nil => intro z _; rfl
  | cons p l ih =>
    obtain ⟨o, x⟩ := p
    intro z hx
    simp only [List.flatMap_cons, List.mem_append] at hx
    simp only [bslD, h.ev x fun n hn => hx n (.inl hn)]
    split
    · rw [ih _ fun n hn => hx n (.inr hn)]
    · rfl

theorem optI_ev {T : List Nat} {R : List ALoc} (h : Ag T R s t) (x : Option XV) (hx : ∀ n ∈ xvO x, n ∈ T) : optI t x = optI s x := by
  cases x with
  | none => rfl
  | some x => simp only [optI, h.ev x hx]

def nilcV : AV → Option AV
  | .bp r off => some (.bp r off)
  | .d (.op p off) => some (.d (.op p off))
  | .d (.ep sz xs i off) => some (.d (.ep sz xs i off))
  | .fn f cs => some (.fn f cs)
  | .d (.fd f cs) => some (.d (.fd f cs))
  | _ => none
def pickV (c a b : AV) : Option AV := match c with
  | .d (.b t) => some (if t then a else b)
  | _ => none
def mksV (z : DV) (bytes : Nat) (l c : AV) : Option AV := match l, c with
    | .d (.i .i64 n), .d (.i .i64 m) => if 0 ≤ n ∧ n ≤ m ∧ m * bytes ≤ 140737488355328 ∧ m ≤ 140737488355328 then some (.os z.cells.length (List.replicate n.toNat z)) else none
    | _, _ => none
def fldV (ag : Bool) (off n : Nat) (x : AV) : Option AV := match x with
    | .d (.agg cs) => (partD ag cs off n).map .d
    | _ => none
def fadV (off : Nat) (x : AV) : Option AV := match x with
    | .bp r a => some (.bp r (a + off))
    | .d (.op p a) => some (.d (.op p (a + off)))
    | .d (.ep sz xs i a) => some (.d (.ep sz xs i (a + off)))
    | _ => none
def iadP (n : Nat) (i : Int) (x : AV) : Option AV := match x with
        | .bp r a => some (.bp r (a + i.toNat * n))
        | .d (.op p a) => some (.d (.op p (a + i.toNat * n)))
        | .d (.ep sz xs j a) => some (.d (.ep sz xs j (a + i.toNat * n)))
        | _ => none
def iadS (n : Nat) (i : Int) (x : AV) : Option AV := match x with
        | .d (.sl sz xs) => if sz = n ∧ 0 ≤ i ∧ i < xs.length then some (.d (.ep sz xs i.toNat 0)) else none
        | _ => none
def iadV (arr : Option Nat) (n : Nat) (x ix : AV) : Option AV := match intOf ix with
    | none => none
    | some i => match arr with
      | some len => if 0 ≤ i ∧ i < len then iadP n i x else none
      | none => iadS n i x
def idxV (ag : Bool) (len n : Nat) (x ix : AV) : Option AV := match x, intOf ix with
    | .d (.agg cs), some i => if 0 ≤ i ∧ i < len then (partD ag cs (i.toNat * n) n).map .d else none
    | _, _ => none
def idxsV (x ix : AV) : Option AV := match x, intOf ix with
    | .d (.s b), some i => if 0 ≤ i ∧ i < b.size then some (.d (.i .u8 (b.data.getD i.toNat 0).toNat)) else none
    | _, _ => none
def extV (x : AV) (i : Nat) : Option AV := match x with
    | .tup vs => (cellAt vs i).map AV.strip
    | _ => none
def len0V (x : AV) : Option AV := match x with
    | .d (.s b) => some (.d (.i .i64 b.size))
    | _ => none
def len1V (x : AV) : Option AV := match x with
    | .d (.sl _ xs) => some (.d (.i .i64 xs.length))
    | .d .nsl => some (.d (.i .i64 0))
    | _ => none

theorem opF_nilc (x : XV) : opF ⟨d, .nilc x, g⟩ s = (nilcV (ev s x)).map fun v => s.put d v := by
  simp only [opF]; cases ev s x with | d v => cases v <;> rfl | _ => rfl
theorem opF_pick (x y z : XV) : opF ⟨d, .pick x y z, g⟩ s = (pickV (ev s x) (ev s y) (ev s z)).map fun v => s.put d v := by
  simp only [opF]; cases ev s x with | d v => cases v <;> rfl | _ => rfl
theorem opF_mks (z : DV) (m : Nat) (x y : XV) : opF ⟨d, .mks z m x y, g⟩ s = (mksV z m (ev s x) (ev s y)).map fun v => s.put d v := by
  simp only [opF, mksV]; generalize ev s x = u; generalize ev s y = v
  split
  · simp only []; split <;> rfl
  · split <;> simp_all
theorem opF_fld (ag : Bool) (off n : Nat) (x : XV) : opF ⟨d, .fld ag off n x, g⟩ s = (fldV ag off n (ev s x)).map fun v => s.put d v := by
  simp only [opF, fldV]; cases ev s x with
  | d v => cases v <;> first | rfl | (simp only [Option.map_map]; rfl)
  | _ => rfl
theorem opF_fad (off : Nat) (x : XV) : opF ⟨d, .fad off x, g⟩ s = (fadV off (ev s x)).map fun v => s.put d v := by
  simp only [opF]; cases ev s x with | d v => cases v <;> rfl | _ => rfl
theorem opF_iad (arr : Option Nat) (n : Nat) (x y : XV) : opF ⟨d, .iad arr n x y, g⟩ s = (iadV arr n (ev s x) (ev s y)).map fun v => s.put d v := by
  simp only [opF, iadV]
  cases intOf (ev s y) with
  | none => rfl
  | some i =>
    cases arr with
    | some len =>
      simp only
      split
      · cases ev s x with | d v => cases v <;> rfl | _ => rfl
      · rfl
    | none =>
      simp only [iadS]
      cases ev s x with
      | d v => cases v with
        | sl sz xs => simp only []; split <;> rfl
        | _ => rfl
      | _ => rfl
theorem opF_idx (ag : Bool) (len n : Nat) (x y : XV) : opF ⟨d, .idx ag len n x y, g⟩ s = (idxV ag len n (ev s x) (ev s y)).map fun v => s.put d v := by
  simp only [opF, idxV]; cases ev s x with
  | d v => cases v with
    | agg cs => cases intOf (ev s y) with
      | none => rfl
      | some i => simp only []; split
                  · rw [Option.map_map]; rfl
                  · rfl
    | _ => rfl
  | _ => rfl
theorem opF_idxs (x y : XV) : opF ⟨d, .idxs x y, g⟩ s = (idxsV (ev s x) (ev s y)).map fun v => s.put d v := by
  simp only [opF, idxsV]; cases ev s x with
  | d v => cases v with
    | s b => cases intOf (ev s y) with
      | none => rfl
      | some i => simp only []; split <;> rfl
    | _ => rfl
  | _ => rfl
theorem opF_ext (x : XV) (i : Nat) : opF ⟨d, .ext x i, g⟩ s = (extV (ev s x) i).map fun v => s.put d v := by
  simp only [opF, extV]; cases ev s x with
  | tup vs => simp only [Option.map_map]; rfl
  | _ => rfl
theorem opF_len0 (x : XV) : opF ⟨d, .len 0 x, g⟩ s = (len0V (ev s x)).map fun v => s.put d v := by
  simp only [opF]; cases ev s x with | d v => cases v <;> rfl | _ => rfl
theorem opF_len1 (x : XV) : opF ⟨d, .len 1 x, g⟩ s = (len1V (ev s x)).map fun v => s.put d v := by
  simp only [opF]; cases ev s x with | d v => cases v <;> rfl | _ => rfl

end
end Go.Px

/- Draws: an operation looks at its own places alone: each in turn. -/
namespace Go.Px
section
variable {d : Option Nat} {k : XK} {g : Option (Nat × Bool)} {s t s' : St} {a : List ALoc × List ALoc}

/-- The operations that only reckon. -/
theorem loc_pure (hs : CpU s.cp) (ht : CpU t.cp) (hA : Ag (rdT k) (accOf s ⟨d, k, g⟩).1 s t) (h : opF ⟨d, k, g⟩ s = some s')
    (hk : match k with
      | .pick .. | .build .. | .bsl .. | .nilc .. | .bin .. | .eq .. | .un .. | .conv .. | .mkf .. | .mks .. | .slc .. | .fld .. | .fad .. | .iad .. | .idx .. | .idxs .. | .ext .. | .mx .. | .mn .. => True
      | .len n _ => n < 2
      | _ => False) : LocC d k g s t s' := by
  cases k with
  | pick x y z =>
    have e1 := hA.ev x fun n hn => by simp [rdT, hn]
    have e2 := hA.ev y fun n hn => by simp [rdT, hn]
    have e3 := hA.ev z fun n hn => by simp [rdT, hn]
    exact pure_case hs ht (opF_pick x y z) (by rw [opF_pick, e1, e2, e3]) rfl h
  | build z ps =>
    refine pure_case hs ht (pv := (bldD s z ps).map fun cs => .d (.agg cs)) (by simp only [opF, Option.map_map]; rfl) ?_ rfl h
    simp only [opF, Option.map_map, bldD_ev hA ps z fun n hn => hn]; rfl
  | bsl z n ps =>
    refine pure_case hs ht (pv := (bslD s z.cells.length (List.replicate n z) ps).map fun xs => .os z.cells.length xs) (by simp only [opF, Option.map_map]; rfl) ?_ rfl h
    simp only [opF, Option.map_map, bslD_ev hA _ ps _ fun n hn => hn]; rfl
  | nilc x => exact pure_case hs ht (opF_nilc x) (by rw [opF_nilc, hA.ev x fun n hn => hn]) rfl h
  | bin op x y =>
    refine pure_case hs ht (pv := (binV op (ev s x) (ev s y)).map .d) (by simp only [opF, Option.map_map]; rfl) ?_ rfl h
    simp only [opF, Option.map_map, hA.ev x fun n hn => by simp [rdT, hn], hA.ev y fun n hn => by simp [rdT, hn]]; rfl
  | eq neg e x y =>
    refine pure_case hs ht (pv := (eqA e (ev s x) (ev s y)).map fun t => .d (.b (if neg then !t else t))) (by simp only [opF, Option.map_map]; rfl) ?_ rfl h
    simp only [opF, Option.map_map, hA.ev x fun n hn => by simp [rdT, hn], hA.ev y fun n hn => by simp [rdT, hn]]; rfl
  | un op x =>
    refine pure_case hs ht (pv := (unV op (ev s x)).map .d) (by simp only [opF, Option.map_map]; rfl) ?_ rfl h
    simp only [opF, Option.map_map, hA.ev x fun n hn => hn]; rfl
  | conv c x =>
    refine pure_case hs ht (pv := convV c (ev s x)) rfl ?_ rfl h
    simp only [opF, hA.ev x fun n hn => hn]
  | mkf f cs =>
    refine pure_case hs ht (pv := some (.fn f (cs.map (ev s)))) rfl ?_ rfl h
    simp only [opF, map_ev hA cs fun n hn => hn]; rfl
  | mks z m x y => exact pure_case hs ht (opF_mks z m x y) (by rw [opF_mks, hA.ev x fun n hn => by simp [rdT, hn], hA.ev y fun n hn => by simp [rdT, hn]]) rfl h
  | slc es x lo hi mx =>
    have e1 := hA.ev x fun n hn => by simp [rdT, hn]
    have e2 := optI_ev hA lo fun n hn => by simp [rdT, hn]
    have e3 := optI_ev hA hi fun n hn => by simp [rdT, hn]
    have e4 := optI_ev hA mx fun n hn => by simp [rdT, hn]
    have key : ∀ s : St, opF ⟨d, .slc es x lo hi mx, g⟩ s = (match optI s lo, optI s hi, optI s mx with
      | some l, some h, some m => sliceX es (ev s x) l h m
      | _, _, _ => none).map fun v => s.put d v := by
      intro s
      simp only [opF]
      cases optI s lo with
      | none => rfl
      | some l => cases optI s hi with
        | none => rfl
        | some h => cases optI s mx <;> rfl
    exact pure_case hs ht (key s) (by rw [key, e1, e2, e3, e4]) rfl h
  | fld ag off n x => exact pure_case hs ht (opF_fld ag off n x) (by rw [opF_fld, hA.ev x fun n hn => hn]) rfl h
  | fad off x => exact pure_case hs ht (opF_fad off x) (by rw [opF_fad, hA.ev x fun n hn => hn]) rfl h
  | iad arr n x y => exact pure_case hs ht (opF_iad arr n x y) (by rw [opF_iad, hA.ev x fun n hn => by simp [rdT, hn], hA.ev y fun n hn => by simp [rdT, hn]]) rfl h
  | idx ag len n x y => exact pure_case hs ht (opF_idx ag len n x y) (by rw [opF_idx, hA.ev x fun n hn => by simp [rdT, hn], hA.ev y fun n hn => by simp [rdT, hn]]) rfl h
  | idxs x y => exact pure_case hs ht (opF_idxs x y) (by rw [opF_idxs, hA.ev x fun n hn => by simp [rdT, hn], hA.ev y fun n hn => by simp [rdT, hn]]) rfl h
  | ext x i => exact pure_case hs ht (opF_ext x i) (by rw [opF_ext, hA.ev x fun n hn => hn]) rfl h
  | len n x =>
    have e1 := hA.ev x fun n hn => hn
    have hk : n < 2 := hk
    obtain rfl | rfl : n = 0 ∨ n = 1 := by omega
    · exact pure_case hs ht (opF_len0 x) (by rw [opF_len0, e1]) (by simp only [accOf, accK, e1]) h
    · exact pure_case hs ht (opF_len1 x) (by rw [opF_len1, e1]) (by simp only [accOf, accK, e1]) h
  | mx xs =>
    refine pure_case hs ht (pv := (mxI (xs.map (ev s))).map .d) (by simp only [opF, Option.map_map]; rfl) ?_ rfl h
    simp only [opF, Option.map_map, map_ev hA xs fun n hn => hn]; rfl
  | mn xs =>
    refine pure_case hs ht (pv := (mnI (xs.map (ev s))).map .d) (by simp only [opF, Option.map_map]; rfl) ?_ rfl h
    simp only [opF, Option.map_map, map_ev hA xs fun n hn => hn]; rfl
  | _ => exact hk.elim

/-! ### Slices that are handed on -/

theorem owned_none_accK {x : XV} (h : owned s x = none) : lostLoc s x = [] := by simp [lostLoc, h]
theorem owned_some_accK {n sz : Nat} {xs : List DV} {x : XV} (h : owned s x = some (n, sz, xs)) : x = .t n ∧ getT s.tm n = .os sz xs ∧ lostLoc s x = [.own n] := by
  obtain ⟨rfl, h2⟩ := owned_some h
  exact ⟨rfl, h2, by simp [lostLoc, h, ownLoc]⟩

theorem loc_mv (hs : CpU s.cp) (ht : CpU t.cp) {x : XV} (hA : Ag (rdT (.mv x)) (accOf s ⟨d, .mv x, g⟩).1 s t) (h : opF ⟨d, .mv x, g⟩ s = some s') : LocC d (.mv x) g s t s' := by
  have e1 := hA.ev x fun n hn => hn
  have e2 := hA.owned x fun l hl => hl
  simp only [opF] at h
  cases ho : owned s x with
  | none =>
    simp only [ho, Option.some.injEq] at h
    subst h
    exact ⟨_, by simp only [opF, e2, ho]; rfl, rfl, by rw [e1]; exact moves_put hs ht d _ _⟩
  | some p =>
    obtain ⟨n, sz, xs⟩ := p
    obtain ⟨rfl, hg, _⟩ := owned_some_accK ho
    simp only [ho] at h
    split at h
    · cases h
    · rename_i hne
      cases h
      have hf : ∀ {u : St}, CpU u.cp → FctOk d (accOf s ⟨d, .mv (.t n), g⟩).1 ((u.put d (.d (.sl sz xs))).copied d (.t n)) := by
        intro u hu m e l hl
        subst e
        have hx := (Pt.putc hu hu (some m) (.d (.sl sz xs)) (.t n)).su
        have := (cpGet_iff hx m l).1 hl
        rcases inCp_mem.1 this with e | e
        · cases e; simp [srcIn, accOf, accK, ownLoc]
        · exact absurd rfl (mem_rmT_iff.1 e).2.1
      refine ⟨_, by simp only [opF, e2, ho, if_neg hne], rfl, ⟨⟨[], [], false, false, false, .putc hs ht d _ _, (fun n h => by cases h), (fun n h => by cases h), (fun h => by cases h), (fun h => by cases h), (fun h => by cases h)⟩, hf hs, hf ht⟩⟩

theorem loc_asg (hs : CpU s.cp) (ht : CpU t.cp) {x : XV} (hA : Ag (rdT (.asg x)) (accOf s ⟨d, .asg x, g⟩).1 s t) (h : opF ⟨d, .asg x, g⟩ s = some s') : LocC d (.asg x) g s t s' := by
  have e1 := hA.ev x fun n hn => hn
  have e2 := hA.owned x fun l hl => hl
  have ha : accOf t ⟨d, .asg x, g⟩ = accOf s ⟨d, .asg x, g⟩ := by simp only [accOf, accK, lostLoc, e2]
  simp only [opF] at h
  cases ho : owned s x with
  | none =>
    simp only [ho, Option.some.injEq] at h
    subst h
    exact ⟨_, by simp only [opF, e2, ho]; rfl, ha, by rw [e1]; exact moves_put hs ht d _ _⟩
  | some p =>
    obtain ⟨n, sz, xs⟩ := p
    obtain ⟨rfl, hg, hl⟩ := owned_some_accK ho
    simp only [ho] at h
    split at h
    · cases h
    · rename_i hne
      cases h
      have hl1 := Pt.lose hs ht (hA.ow n (by simp [accOf, accK, ownLoc]))
      refine ⟨_, by simp only [opF, e2, ho, if_neg hne], ha, ⟨⟨[n] ++ [], [] ++ [], false, false, false, hl1.trans (.put hl1.su hl1.tu d _), ?_, (fun n h => by cases h), (fun h => by cases h), (fun h => by cases h), (fun h => by cases h)⟩, fct_put hl1.su d _ _, fct_put hl1.tu d _ _⟩⟩
      intro m hm
      simp only [List.append_nil, List.mem_singleton] at hm
      subst hm
      simp [accOf, accK, hl]

/-- The cells of a value that is laid: who owned it loses it. -/
theorem val_loc (hs : CpU s.cp) (ht : CpU t.cp) {T : List Nat} {R : List ALoc} (hA : Ag T R s t) {n : Nat} {x : XV} (hx : ∀ m ∈ xvT x, m ∈ T) (ho' : ∀ l ∈ ownLoc x, l ∈ R) {vs : List AV} {s1 : St} (h : valCells s n x = some (vs, s1)) :
    ∃ t1 L, valCells t n x = some (vs, t1) ∧ Pt none L [] false false false s s1 t t1 ∧ (∀ m ∈ L, ALoc.own m ∈ lostLoc s x) ∧ s1.bx = s.bx ∧ t1.bx = t.bx ∧ s1.up = s.up ∧ t1.up = t.up ∧ s1.hp = s.hp ∧ t1.hp = t.hp := by
  have e1 := hA.ev x hx
  have e2 := hA.owned x ho'
  unfold valCells at h ⊢
  rw [e2]
  cases ho : owned s x with
  | none =>
    simp only [ho] at h ⊢
    rw [e1]
    split at h
    · split at h
      · rename_i hl
        cases h
        exact ⟨t, [], by simp_all, .refl hs ht, (fun m h => by cases h), rfl, rfl, rfl, rfl, rfl, rfl⟩
      · cases h
    · cases h
    · cases h
    · cases h
    · rename_i h1 h2 h3 h4
      split at h
      · rename_i hn
        cases h
        refine ⟨t, [], ?_, .refl hs ht, (fun m h => by cases h), rfl, rfl, rfl, rfl, rfl, rfl⟩
        rw [if_pos hn]
      · cases h
  | some p =>
    obtain ⟨m, sz, xs⟩ := p
    obtain ⟨rfl, hg, hl⟩ := owned_some_accK ho
    simp only [ho] at h ⊢
    split at h
    · rename_i hn
      cases h
      refine ⟨t.lose m, [m], by rw [if_pos hn], .lose hs ht (hA.ow m (ho' _ (by simp [ownLoc]))), ?_, rfl, rfl, rfl, rfl, rfl, rfl⟩
      intro k hk
      simp only [List.mem_singleton] at hk
      subst hk
      simp [hl]
    · cases h

end
end Go.Px

/- Draws: memory's operations look at their own places alone. -/
namespace Go.Px
section
variable {d : Option Nat} {k : XK} {g : Option (Nat × Bool)} {s t s' : St} {a : List ALoc × List ALoc} {T : List Nat} {R : List ALoc}

/-- Frames and objects agree where an address leads. -/
structure AgM (R : List ALoc) (s t : St) : Prop where
  bx : ∀ r, ALoc.box r ∈ R → frGet s.bx r = frGet t.bx r
  up : ALoc.up ∈ R → s.up = t.up
  hp : ALoc.hp ∈ R → s.hp = t.hp

theorem Ag.m (h : Ag T R s t) : AgM R s t := ⟨h.bx, h.up, h.hp⟩

theorem AgM.ref (h : AgM R s t) {r : Ref} (hr : refLoc r ∈ R) : refGet t.frs r = refGet s.frs r := by
  cases r with
  | loc n => exact (h.bx n hr).symm
  | up r => simp only [St.frs, refGet, h.up hr]

theorem AgM.rd (h : AgM R s t) (n : Nat) {v : AV} (hv : ∀ l ∈ addrLoc v, l ∈ R) : rdCells t n v = rdCells s n v := by
  cases v with
  | bp r off => simp only [rdCells, h.ref (r := r) (hv _ (by simp [addrLoc]))]
  | d v => cases v with
    | op o off => simp only [rdCells, h.hp (hv _ (by simp [addrLoc]))]
    | _ => rfl
  | _ => rfl

theorem AgM.map (h : AgM R s t) {v : AV} (hv : ∀ l ∈ addrLoc v, l ∈ R) : mapAt t v = mapAt s v := by
  cases v with
  | mb r => simp only [mapAt, h.ref (r := r) (hv _ (by simp [addrLoc]))]
  | d v => cases v with
    | mo o => simp only [mapAt, h.hp (hv _ (by simp [addrLoc]))]
    | _ => rfl
  | _ => rfl

/-- A place of a frame is written. -/
theorem setFrs_loc (hs : CpU s.cp) (ht : CpU t.cp) (hA : AgM R s t) {r : Ref} (hr : refLoc r ∈ R) {o o' : BObj} (ho : refGet s.frs r = some o) :
    ∃ B u, Pt none [] B u false false s (s.setFrs (refSet s.frs r o')) t (t.setFrs (refSet t.frs r o')) ∧ (∀ n ∈ B, ALoc.box n ∈ [refLoc r]) ∧ (u = true → ALoc.up ∈ [refLoc r]) := by
  have ho' : refGet t.frs r = some o := (hA.ref hr).trans ho
  cases r with
  | loc n =>
    refine ⟨[n], false, ?_, by simp [refLoc], by simp⟩
    refine Pt.box (r := n) (o := some o') hs ht (fun m => ?_) (fun m => ?_)
    · rw [frGet_frSet, show frGet s.bx n = some o from ho]; rfl
    · rw [frGet_frSet, show frGet t.bx n = some o from ho']; rfl
  | up r =>
    refine ⟨[], true, ?_, by simp, by simp [refLoc]⟩
    have := Pt.upd hs ht (refSet s.up r o')
    have e : t.setFrs (refSet t.frs (.up r) o') = { t with up := refSet s.up r o' } := by simp only [St.frs, refSet, St.setFrs, hA.up hr]
    rw [e]; exact this

theorem wr_loc (hs : CpU s.cp) (ht : CpU t.cp) (hA : AgM R s t) {v : AV} (hv : ∀ l ∈ addrLoc v, l ∈ R) {vs : List AV} (h : wrCells s v vs = some s') :
    ∃ t' B u hh, wrCells t v vs = some t' ∧ Pt none [] B u hh true s s' t t' ∧ (∀ n ∈ B, ALoc.box n ∈ addrLoc v) ∧ (u = true → ALoc.up ∈ addrLoc v) ∧ (hh = true → ALoc.hp ∈ addrLoc v) := by
  cases v with
  | bp r off =>
    have hr := hv (refLoc r) (by simp [addrLoc])
    simp only [wrCells] at h ⊢
    rw [hA.ref hr]
    split at h
    · rename_i cs hcs
      rw [Option.ite_none_right_eq_some] at h
      · obtain ⟨hc, h⟩ := h
        cases h
        obtain ⟨B, u, h1, h2, h3⟩ := setFrs_loc (o' := .cells (splL cs off vs)) hs ht hA hr hcs
        have h4 := h1.trans (Pt.rmC h1.su h1.tu)
        refine ⟨{ t.setFrs (refSet t.frs r (.cells (splL cs off vs))) with cp := Px.rmC t.cp }, B ++ [], u || false, false, by rw [if_pos hc], ?_, by simpa [addrLoc] using h2, by simpa [addrLoc] using h3, by simp⟩
        have e1 : ∀ (u : St) (x : List Frm), (u.setFrs x).cp = u.cp := fun u x => by cases x <;> rfl
        simp only [e1] at h4
        exact h4
    · cases h
  | d v =>
    cases v with
    | op o off =>
      have hr := hA.hp (hv .hp (by simp [addrLoc]))
      simp only [wrCells] at h ⊢
      rw [← hr]
      split at h
      · rename_i cs hcs
        split at h
        · rename_i hc
          cases h
          have h1 := Pt.hpd hs ht (hSet s.hp o (.cells (splL cs off vs)))
          have h4 := h1.trans (Pt.rmC h1.su h1.tu)
          exact ⟨_, [] ++ [], false, true, by simp only [if_pos hc], h4, by simp, by simp, by simp [addrLoc]⟩
        · cases h
      · cases h
    | _ => cases h
  | _ => cases h

theorem map_loc (hs : CpU s.cp) (ht : CpU t.cp) (hA : AgM R s t) {v : AV} (hv : ∀ l ∈ addrLoc v, l ∈ R) {es es0 : List ME} {c c0 : Nat} (h0 : mapAt s v = some (es0, c0)) (h : mapSet s es c v = some s') :
    ∃ t' B u hh, mapSet t es c v = some t' ∧ Pt none [] B u hh false s s' t t' ∧ (∀ n ∈ B, ALoc.box n ∈ addrLoc v) ∧ (u = true → ALoc.up ∈ addrLoc v) ∧ (hh = true → ALoc.hp ∈ addrLoc v) := by
  cases v with
  | mb r =>
    have hr := hv (refLoc r) (by simp [addrLoc])
    simp only [mapSet, Option.some.injEq] at h
    subst h
    simp only [mapAt] at h0
    split at h0
    · rename_i es1 c1 hcs
      obtain ⟨B, u, h1, h2, h3⟩ := setFrs_loc (o' := .map es c) hs ht hA hr hcs
      exact ⟨_, B, u, false, rfl, h1, by simpa [addrLoc] using h2, by simpa [addrLoc] using h3, by simp⟩
    · cases h0
  | d v =>
    cases v with
    | mo o =>
      have hr := hA.hp (hv .hp (by simp [addrLoc]))
      simp only [mapSet, Option.some.injEq] at h
      subst h
      refine ⟨_, [], false, true, rfl, ?_, by simp, by simp, by simp [addrLoc]⟩
      rw [← hr]
      exact Pt.hpd hs ht _
    | _ => cases h
  | _ => cases h

/-- Changes one behind the other, the last one a slot's. -/
theorem moves_then {L B : List Nat} {u hh f : Bool} {s1 t1 : St} (h : Pt none L B u hh f s s1 t t1) (v : AV) (h1 : ∀ n ∈ L, ALoc.own n ∈ a.2) (h2 : ∀ r ∈ B, ALoc.box r ∈ a.2) (h3 : u = true → ALoc.up ∈ a.2) (h4 : hh = true → ALoc.hp ∈ a.2) (h5 : f = true → ALoc.fct ∈ a.2) :
    Moves d a s (s1.put d v) t (t1.put d v) :=
  ⟨⟨_, _, _, _, _, h.trans (.put h.su h.tu d v), by simpa using h1, by simpa using h2, by simpa using h3, by simpa using h4, by simpa using h5⟩, fct_put h.su d v _, fct_put h.tu d v _⟩

theorem pushB_loc (hs : CpU s.cp) (ht : CpU t.cp) {n : Nat} (hb : frGet s.bx n = frGet t.bx n) {o : BObj} (h : s.pushB n o = some s') : ∃ t', t.pushB n o = some t' ∧ Pt none [] [n] false false false s s' t t' := by
  simp only [St.pushB] at h ⊢
  cases hn : frGet s.bx n with
  | none =>
    simp only [hn, Option.some.injEq] at h
    subst h
    refine ⟨_, by rw [← hb, hn], .box (o := some o) hs ht (fun m => frGet_frIns hn o m) (fun m => frGet_frIns (by rw [← hb, hn]) o m)⟩
  | some x => simp only [hn] at h; cases h

theorem pushH_loc (hs : CpU s.cp) (ht : CpU t.cp) (hb : s.hp = t.hp) {o : HObj} {n : Nat} (h : s.pushH o = some (n, s')) : ∃ t', t.pushH o = some (n, t') ∧ Pt none [] [] false true false s s' t t' := by
  simp only [St.pushH] at h ⊢
  cases hn : s.hp with
  | none => simp only [hn] at h; cases h
  | some os =>
    simp only [hn, Option.some.injEq, Prod.mk.injEq] at h
    obtain ⟨rfl, rfl⟩ := h
    exact ⟨_, by rw [← hb, hn], .hpd hs ht _⟩

/-- A new place is laid, and the slot leads there. -/
theorem new_loc {L : List Nat} {s1 t1 : St} (h0 : Pt none L [] false false false s s1 t t1) (h1 : ∀ n ∈ L, ALoc.own n ∈ a.2) {m : Nat} {hh : Bool} (hd : d = some m) (hn : ∀ l ∈ newLoc d hh, l ∈ a.2) (hb : hh = false → frGet s1.bx m = frGet t1.bx m) (hp : hh = true → s1.hp = t1.hp)
    {o : BObj} {mk : Nat → AV} {lc : AV} (h : (if hh then (s1.pushH o).map (fun p => p.2.put d (mk p.1)) else (s1.pushB m o).map fun s => s.put d lc) = some s') :
    ∃ t', (if hh then (t1.pushH o).map (fun p => p.2.put d (mk p.1)) else (t1.pushB m o).map fun s => s.put d lc) = some t' ∧ Moves d a s s' t t' := by
  cases hh with
  | true =>
    simp only [if_true, Option.map_eq_some_iff] at h ⊢
    obtain ⟨⟨n, s2⟩, h2, rfl⟩ := h
    obtain ⟨t2, e, hp2⟩ := pushH_loc h0.su h0.tu (hp rfl) h2
    refine ⟨_, ⟨(n, t2), e, rfl⟩, moves_then (h0.trans hp2) _ (by simpa using h1) (by simp) (by simp) (fun _ => hn _ (by simp [newLoc])) (by simp)⟩
  | false =>
    simp only [Bool.false_eq_true, if_false, Option.map_eq_some_iff] at h ⊢
    obtain ⟨s2, h2, rfl⟩ := h
    obtain ⟨t2, e, hp2⟩ := pushB_loc h0.su h0.tu (hb rfl) h2
    refine ⟨_, ⟨t2, e, rfl⟩, moves_then (h0.trans hp2) _ (by simpa using h1) (fun r hr => ?_) (by simp) (by simp) (by simp)⟩
    simp only [List.nil_append, List.mem_singleton] at hr
    subst hr
    exact hn _ (by simp [newLoc, hd])

theorem loc_alloc (hs : CpU s.cp) (ht : CpU t.cp) {z : List DV} {hh : Bool} (hA : Ag (rdT (.alloc z hh)) (accOf s ⟨d, .alloc z hh, g⟩).1 s t) (h : opF ⟨d, .alloc z hh, g⟩ s = some s') : LocC d (.alloc z hh) g s t s' := by
  cases d with
  | none => cases h
  | some m =>
    simp only [opF] at h
    obtain ⟨t', h1, h2⟩ := new_loc (hh := hh) (o := .cells (z.map .d)) (mk := fun n => .d (.op n 0)) (lc := .bp (.loc m) 0) (a := accOf s ⟨some m, .alloc z hh, g⟩) (.refl hs ht) (by simp) rfl (fun l hl => by simp [accOf, accK, hl]) (fun e => hA.bx m (by simp [accOf, accK, newLoc, e])) (fun e => hA.hp (by simp [accOf, accK, newLoc, e])) h
    exact ⟨t', h1, rfl, h2⟩

theorem loc_mkm (hs : CpU s.cp) (ht : CpU t.cp) {hh : Bool} (hA : Ag (rdT (.mkm hh)) (accOf s ⟨d, .mkm hh, g⟩).1 s t) (h : opF ⟨d, .mkm hh, g⟩ s = some s') : LocC d (.mkm hh) g s t s' := by
  cases d with
  | none => cases h
  | some m =>
    simp only [opF] at h
    obtain ⟨t', h1, h2⟩ := new_loc (hh := hh) (o := .map [] 0) (mk := fun n => .d (.mo n)) (lc := .mb (.loc m)) (a := accOf s ⟨some m, .mkm hh, g⟩) (.refl hs ht) (by simp) rfl (fun l hl => by simp [accOf, accK, hl]) (fun e => hA.bx m (by simp [accOf, accK, newLoc, e])) (fun e => hA.hp (by simp [accOf, accK, newLoc, e])) h
    exact ⟨t', h1, rfl, h2⟩

theorem loc_box (hs : CpU s.cp) (ht : CpU t.cp) {n : Nat} {x : XV} {hh : Bool} (hA : Ag (rdT (.box n x hh)) (accOf s ⟨d, .box n x hh, g⟩).1 s t) (h : opF ⟨d, .box n x hh, g⟩ s = some s') : LocC d (.box n x hh) g s t s' := by
  have ha : accOf t ⟨d, .box n x hh, g⟩ = accOf s ⟨d, .box n x hh, g⟩ := by simp only [accOf, accK, lostLoc, hA.owned x fun l hl => by simp [accOf, accK, hl]]
  cases d with
  | none => cases h
  | some m =>
    simp only [opF] at h
    split at h
    · rename_i vs s1 hvs
      obtain ⟨t1, L, e1, e2, e3, b1, b2, b3, b4, b5, b6⟩ := val_loc hs ht hA (n := n) (x := x) (fun k hk => hk) (fun l hl => by simp [accOf, accK, hl]) hvs
      have hn : ∀ l ∈ newLoc (some m) hh, l ∈ (accOf s ⟨some m, .box n x hh, g⟩).2 := fun l hl => by simp [accOf, accK, hl]
      have hL : ∀ k ∈ L, ALoc.own k ∈ (accOf s ⟨some m, .box n x hh, g⟩).2 := fun k hk => by simp [accOf, accK, e3 k hk]
      have hb : hh = false → frGet s1.bx m = frGet t1.bx m := fun e => by rw [b1, b2]; exact hA.bx m (by simp [accOf, accK, newLoc, e])
      have hp : hh = true → s1.hp = t1.hp := fun e => by rw [b5, b6]; exact hA.hp (by simp [accOf, accK, newLoc, e])
      have key : (if hh then (s1.pushH (.cells vs)).map (fun p => p.2.put (some m) (.d (.op p.1 0))) else (s1.pushB m (.cells vs)).map fun s => s.put (some m) (.bp (.loc m) 0)) = some s' ∧ (hh = true → vs.all AV.plain = true) := by
        cases hh with
        | true =>
          simp only [if_true] at h ⊢
          split at h
          · rename_i hp; exact ⟨h, fun _ => hp⟩
          · cases h
        | false => exact ⟨h, by simp⟩
      obtain ⟨t', h1, h2⟩ := new_loc (hh := hh) (o := .cells vs) (mk := fun n => .d (.op n 0)) (lc := .bp (.loc m) 0) (a := accOf s ⟨some m, .box n x hh, g⟩) e2 hL rfl hn hb hp key.1
      refine ⟨t', ?_, ha, h2⟩
      simp only [opF, e1]
      cases hh with
      | true => simp only [if_true] at h1 ⊢; rw [if_pos (key.2 rfl)]; exact h1
      | false => exact h1
    · cases h

theorem loc_load (hs : CpU s.cp) (ht : CpU t.cp) {ag : Bool} {n : Nat} {x : XV} (hA : Ag (rdT (.load ag n x)) (accOf s ⟨d, .load ag n x, g⟩).1 s t) (h : opF ⟨d, .load ag n x, g⟩ s = some s') : LocC d (.load ag n x) g s t s' := by
  have e1 := hA.ev x fun n hn => hn
  have e2 := hA.m.rd n (v := ev s x) (fun l hl => by simp [accOf, accK, hl])
  have ha : accOf t ⟨d, .load ag n x, g⟩ = accOf s ⟨d, .load ag n x, g⟩ := by simp only [accOf, accK, e1, e2]
  simp only [LocC, opF, e1, e2] at h ⊢
  split at h
  · cases h
  · rename_i cs hcs
    cases hag : ag with
    | true =>
      simp only [hag, if_true, Option.map_eq_some_iff] at h ⊢
      obtain ⟨ds, hds, rfl⟩ := h
      subst hag
      exact ⟨_, ⟨ds, hds, rfl⟩, ha, moves_put hs ht d _ _⟩
    | false =>
      subst hag
      simp only [Bool.false_eq_true, if_false] at h ⊢
      split at h
      · rename_i sz xs
        split at h
        · rename_i l hl
          cases h
          have hfct : ALoc.fct ∈ (accOf s ⟨d, .load false n x, g⟩).1 := by simp [accOf, accK, hcs]
          have hf : ∀ {u : St}, CpU u.cp → FctOk d (accOf s ⟨d, .load false n x, g⟩).1 ((u.put d (.d (.sl sz xs))).copied d l) := by
            intro u hu m e l' hl'
            subst e
            have hx := (Pt.putc hu hu (some m) (.d (.sl sz xs)) l).su
            have := (cpGet_iff hx m l').1 hl'
            rcases inCp_mem.1 this with e | e
            · cases e
              cases hv : ev s x with
              | bp r off => rw [hv] at hl; cases hl; exact hfct
              | d v => rw [hv] at hl; cases v <;> simp only [locOf, reduceCtorEq, Option.some.injEq] at hl; subst hl; exact hfct
              | _ => rw [hv] at hl; cases hl
            · exact absurd rfl (mem_rmT_iff.1 e).2.1
          exact ⟨_, rfl, ha, ⟨⟨[], [], false, false, false, .putc hs ht d _ _, (fun n h => by cases h), (fun n h => by cases h), (fun h => by cases h), (fun h => by cases h), (fun h => by cases h)⟩, hf hs, hf ht⟩⟩
        · cases h
      · cases h
        exact ⟨_, rfl, ha, moves_put hs ht d _ _⟩
      · cases h

theorem loc_store (hs : CpU s.cp) (ht : CpU t.cp) {n : Nat} {x y : XV} (hA : Ag (rdT (.store n x y)) (accOf s ⟨d, .store n x y, g⟩).1 s t) (h : opF ⟨d, .store n x y, g⟩ s = some s') : LocC d (.store n x y) g s t s' := by
  have e1 := hA.ev x fun n hn => by simp [rdT, hn]
  have e2 := hA.owned y fun l hl => by simp [accOf, accK, hl]
  have ha : accOf t ⟨d, .store n x y, g⟩ = accOf s ⟨d, .store n x y, g⟩ := by simp only [accOf, accK, lostLoc, e1, e2]
  simp only [LocC, opF, e1] at h ⊢
  split at h
  · rename_i vs s1 hvs
    obtain ⟨t1, L, f1, f2, f3, b1, b2, b3, b4, b5, b6⟩ := val_loc hs ht hA (n := n) (x := y) (fun k hk => by simp [rdT, hk]) (fun l hl => by simp [accOf, accK, hl]) hvs
    simp only [Option.map_eq_some_iff] at h
    obtain ⟨s2, h2, rfl⟩ := h
    have hM : AgM (accOf s ⟨d, .store n x y, g⟩).1 s1 t1 := ⟨fun r hr => by rw [b1, b2]; exact hA.bx r hr, fun hr => by rw [b3, b4]; exact hA.up hr, fun hr => by rw [b5, b6]; exact hA.hp hr⟩
    obtain ⟨t2, B, u, hh, w1, w2, w3, w4, w5⟩ := wr_loc f2.su f2.tu hM (v := ev s x) (fun l hl => by simp [accOf, accK, hl]) h2
    refine ⟨t2.put d .dead, by simp only [f1, w1, Option.map_some], ha, moves_then (f2.trans w2) _ (fun m hm => ?_) (fun r hr => ?_) (fun hu => ?_) (fun hu => ?_) (fun _ => by simp [accOf, accK])⟩
    · simp only [List.append_nil] at hm; simp [accOf, accK, f3 m hm]
    · simp only [List.nil_append] at hr; simp [accOf, accK, w3 r hr]
    · simp only [Bool.false_or] at hu; simp [accOf, accK, w4 hu]
    · simp only [Bool.false_or] at hu; simp [accOf, accK, w5 hu]
  · cases h

end
end Go.Px

/- Draws: maps and append. -/
namespace Go.Px
section
variable {d : Option Nat} {k : XK} {g : Option (Nat × Bool)} {s t s' : St} {a : List ALoc × List ALoc} {T : List Nat} {R : List ALoc}

theorem loc_lenM (hs : CpU s.cp) (ht : CpU t.cp) {n : Nat} (hn : 2 ≤ n) {x : XV} (hA : Ag (rdT (.len n x)) (accOf s ⟨d, .len n x, g⟩).1 s t) (h : opF ⟨d, .len n x, g⟩ s = some s') : LocC d (.len n x) g s t s' := by
  have e1 := hA.ev x fun n hn => hn
  have e2 := hA.m.map (v := ev s x) (fun l hl => by simp [accOf, accK, hl])
  have key : ∀ s : St, opF ⟨d, .len n x, g⟩ s = ((mapAt s (ev s x)).map fun p => AV.d (.i .i64 p.1.length)).map fun v => s.put d v := by
    intro s
    match n, hn with
    | n + 2, _ => simp only [opF, Option.map_map]; rfl
  exact pure_case hs ht (key s) (by rw [key, e1, e2]) (by simp only [accOf, accK, e1]) h

theorem loc_lookup (hs : CpU s.cp) (ht : CpU t.cp) {z : DV} {e : EK} {x y : XV} {ok : Bool} (hA : Ag (rdT (.lookup z e x y ok)) (accOf s ⟨d, .lookup z e x y ok, g⟩).1 s t) (h : opF ⟨d, .lookup z e x y ok, g⟩ s = some s') : LocC d (.lookup z e x y ok) g s t s' := by
  have e1 := hA.ev x fun n hn => by simp [rdT, hn]
  have e3 := hA.ev y fun n hn => by simp [rdT, hn]
  have e2 := hA.m.map (v := ev s x) (fun l hl => by simp [accOf, accK, hl])
  have ha : accOf t ⟨d, .lookup z e x y ok, g⟩ = accOf s ⟨d, .lookup z e x y ok, g⟩ := by simp only [accOf, accK, e1]
  simp only [LocC, opF, e1, e2, e3] at h ⊢
  split at h
  · split at h
    · cases h
      exact ⟨_, rfl, ha, moves_put hs ht d _ _⟩
    · cases h
  · cases h

theorem loc_mupd (hs : CpU s.cp) (ht : CpU t.cp) {e : EK} {m x y : XV} (hA : Ag (rdT (.mupd e m x y)) (accOf s ⟨d, .mupd e m x y, g⟩).1 s t) (h : opF ⟨d, .mupd e m x y, g⟩ s = some s') : LocC d (.mupd e m x y) g s t s' := by
  have e1 := hA.ev m fun n hn => by simp [rdT, hn]
  have e3 := hA.ev x fun n hn => by simp [rdT, hn]
  have e4 := hA.ev y fun n hn => by simp [rdT, hn]
  have e2 := hA.m.map (v := ev s m) (fun l hl => by simp [accOf, accK, hl])
  have ha : accOf t ⟨d, .mupd e m x y, g⟩ = accOf s ⟨d, .mupd e m x y, g⟩ := by simp only [accOf, accK, e1]
  have hR : ∀ l ∈ addrLoc (ev s m), l ∈ (accOf s ⟨d, .mupd e m x y, g⟩).2 := fun l hl => by simp [accOf, accK, hl]
  have fin : ∀ {es0 es : List ME} {c0 c : Nat}, mapAt s (ev s m) = some (es0, c0) → (mapSet s es c (ev s m)).map (fun s => s.put d .dead) = some s' →
      ∃ t', (mapSet t es c (ev s m)).map (fun s => s.put d .dead) = some t' ∧ Moves d (accOf s ⟨d, .mupd e m x y, g⟩) s s' t t' := by
    intro es0 es c0 c h0 h
    simp only [Option.map_eq_some_iff] at h
    obtain ⟨s1, h1, rfl⟩ := h
    obtain ⟨t1, B, u, hh, w1, w2, w3, w4, w5⟩ := map_loc hs ht hA.m (v := ev s m) (fun l hl => by simp [accOf, accK, hl]) h0 h1
    exact ⟨_, by rw [w1]; rfl, moves_then w2 _ (by simp) (fun r hr => hR _ (w3 r hr)) (fun hu => hR _ (w4 hu)) (fun hu => hR _ (w5 hu)) (by simp)⟩
  simp only [LocC, opF, e1, e2, e3, e4] at h ⊢
  split at h
  · rename_i hm _ _
    split at h
    · obtain ⟨t', h1, h2⟩ := fin hm h
      exact ⟨t', h1, ha, h2⟩
    · obtain ⟨t', h1, h2⟩ := fin hm h
      exact ⟨t', h1, ha, h2⟩
    · cases h
  · cases h

theorem loc_del (hs : CpU s.cp) (ht : CpU t.cp) {e : EK} {m x : XV} (hA : Ag (rdT (.del e m x)) (accOf s ⟨d, .del e m x, g⟩).1 s t) (h : opF ⟨d, .del e m x, g⟩ s = some s') : LocC d (.del e m x) g s t s' := by
  have e1 := hA.ev m fun n hn => by simp [rdT, hn]
  have e3 := hA.ev x fun n hn => by simp [rdT, hn]
  have e2 := hA.m.map (v := ev s m) (fun l hl => by simp [accOf, accK, hl])
  have ha : accOf t ⟨d, .del e m x, g⟩ = accOf s ⟨d, .del e m x, g⟩ := by simp only [accOf, accK, e1]
  have hR : ∀ l ∈ addrLoc (ev s m), l ∈ (accOf s ⟨d, .del e m x, g⟩).2 := fun l hl => by simp [accOf, accK, hl]
  have fin : ∀ {es0 es : List ME} {c0 c : Nat}, mapAt s (ev s m) = some (es0, c0) → (mapSet s es c (ev s m)).map (fun s => s.put d .dead) = some s' →
      ∃ t', (mapSet t es c (ev s m)).map (fun s => s.put d .dead) = some t' ∧ Moves d (accOf s ⟨d, .del e m x, g⟩) s s' t t' := by
    intro es0 es c0 c h0 h
    simp only [Option.map_eq_some_iff] at h
    obtain ⟨s1, h1, rfl⟩ := h
    obtain ⟨t1, B, u, hh, w1, w2, w3, w4, w5⟩ := map_loc hs ht hA.m (v := ev s m) (fun l hl => by simp [accOf, accK, hl]) h0 h1
    exact ⟨_, by rw [w1]; rfl, moves_then w2 _ (by simp) (fun r hr => hR _ (w3 r hr)) (fun hu => hR _ (w4 hu)) (fun hu => hR _ (w5 hu)) (by simp)⟩
  simp only [LocC, opF, e1, e2, e3] at h ⊢
  split at h
  · rename_i hm _
    split at h
    · obtain ⟨t', h1, h2⟩ := fin hm h
      exact ⟨t', h1, ha, h2⟩
    · cases h
      exact ⟨_, rfl, ha, moves_put hs ht d _ _⟩
    · cases h
  · cases h

theorem acc_app_owned {n : Nat} {sz b : Nat} {y : XV} {p : Nat × Nat × List DV} (h : owned s (.t n) = some p) : accK s ⟨d, .app sz b (.t n) y, g⟩ = ([.own n], [.own n]) := by
  simp only [accK, h]
theorem acc_app_nil {n : Nat} {sz b : Nat} {y : XV} (h : owned s (.t n) = none) (h2 : ev s (.t n) = .d .nsl) : accK s ⟨d, .app sz b (.t n) y, g⟩ = ([.own n], []) := by
  simp only [accK, h, h2]
theorem acc_app_cp {n : Nat} {sz b z : Nat} {xs : List DV} {y : XV} (h : owned s (.t n) = none) (h2 : ev s (.t n) = .d (.sl z xs)) : accK s ⟨d, .app sz b (.t n) y, g⟩ = match cpGet s.cp n with
          | some (.t m) => ([.own n, .cf n, .own m], [.own m])
          | some (.c r _) => ([.own n, .cf n, .fct, refLoc r], [refLoc r])
          | some (.o _ _) => ([.own n, .cf n, .fct, .hp], [.hp])
          | none => ([.any, .own n], [.any]) := by
  simp only [accK, h, h2]
  cases cpGet s.cp n with
  | none => rfl
  | some l => cases l <;> rfl

theorem loc_app (hs : CpU s.cp) (ht : CpU t.cp) {sz b : Nat} {x y : XV} (hA : Ag (rdT (.app sz b x y)) (accOf s ⟨d, .app sz b x y, g⟩).1 s t) (h : opF ⟨d, .app sz b x y, g⟩ s = some s') : LocC d (.app sz b x y) g s t s' := by
  have e1 := hA.ev x fun n hn => by simp [rdT, hn]
  have e3 := hA.ev y fun n hn => by simp [rdT, hn]
  simp only [opF, Option.map_eq_some_iff] at h
  obtain ⟨⟨v, s1⟩, h, rfl⟩ := h
  unfold appX at h
  split at h
  · cases h
  · rename_i zy ys hl
    rw [Option.ite_none_right_eq_some] at h
    obtain ⟨hz, h⟩ := h
    have put1 : ∀ {w : AV}, appX t sz b x y = some (w, t) → accK t ⟨d, .app sz b x y, g⟩ = accK s ⟨d, .app sz b x y, g⟩ → LocC d (.app sz b x y) g s t (s.put d w) := fun {w} h1 h2 =>
      ⟨t.put d w, by simp only [opF, h1, Option.map_some], by simp only [accOf, h2], moves_put hs ht d _ _⟩
    -- an append that is let
    have fin : ∀ {xs : List DV} {s2 : St}, (if (xs.length + ys.length) * b ≤ 140737488355328 then some (AV.os sz (xs ++ ys), s2) else none) = some (v, s1) → (xs.length + ys.length) * b ≤ 140737488355328 ∧ v = .os sz (xs ++ ys) ∧ s1 = s2 := fun h => by
      rw [Option.ite_none_right_eq_some] at h
      obtain ⟨h1, h2⟩ := h
      cases h2; exact ⟨h1, rfl, rfl⟩
    cases x with
    | c cv =>
      have ho : ∀ u : St, owned u (.c cv) = none := fun u => rfl
      simp only [ho, ev] at h
      split at h
      · rename_i e
        cases e
        have hap : ∀ {w}, (match (generalizing := false) ys with | [] => some (AV.d DV.nsl, t) | _ :: _ => if (([] : List DV).length + ys.length) * b ≤ 140737488355328 then some (AV.os sz ([] ++ ys), t) else none) = some (w, t) → appX t sz b (.c .nsl) y = some (w, t) := fun {w} hw => by
          unfold appX; rw [e3, hl]; simp only [if_pos hz, ho, ev]; exact hw
        cases ys with
        | nil => cases h; exact put1 (hap rfl) rfl
        | cons y0 yr =>
          obtain ⟨f1, rfl, rfl⟩ := fin h
          exact put1 (hap (by simp only []; rw [if_pos f1])) rfl
      · cases h
      · cases h
    | f f => simp only [owned, ev] at h; cases h
    | t n =>
      cases ho : owned s (.t n) with
      | some p =>
        obtain ⟨n', z, xs⟩ := p
        obtain ⟨e', hg, _⟩ := owned_some_accK ho
        cases e'
        have hacc := acc_app_owned (d := d) (g := g) (sz := sz) (b := b) (y := y) ho
        have e2 := hA.owned (.t n) fun l hl' => by simp only [accOf, hacc]; simpa [ownLoc] using hl'
        simp only [ho] at h
        split at h
        · rename_i hzz
          obtain ⟨f1, rfl, rfl⟩ := fin h
          have hlo := Pt.lose hs ht (n := n) (hA.ow n (by simp [accOf, hacc]))
          refine ⟨(t.lose n).put d (.os sz (xs ++ ys)), ?_, by simp only [accOf, hacc, acc_app_owned (d := d) (g := g) (sz := sz) (b := b) (y := y) (e2.trans ho)], moves_then hlo _ (fun m hm => ?_) (by simp) (by simp) (by simp) (by simp)⟩
          · simp only [opF]
            unfold appX
            rw [e3, hl]
            simp only [if_pos hz, e2, ho, if_pos hzz, if_pos f1, Option.map_some]
          · simp only [List.mem_singleton] at hm; subst hm; simp [accOf, hacc]
        · cases h
      | none =>
        simp only [ho] at h
        split at h
        · rename_i hev
          have hacc := acc_app_nil (d := d) (g := g) (sz := sz) (b := b) (y := y) ho hev
          have e2 := hA.owned (.t n) fun l hl' => by simp only [accOf, hacc]; simpa [ownLoc] using hl'
          have hacct := acc_app_nil (d := d) (g := g) (sz := sz) (b := b) (y := y) (e2.trans ho) (e1.trans hev)
          have hap : ∀ {w}, (match (generalizing := false) ys with | [] => some (AV.d DV.nsl, t) | _ :: _ => if (([] : List DV).length + ys.length) * b ≤ 140737488355328 then some (AV.os sz ([] ++ ys), t) else none) = some (w, t) → appX t sz b (.t n) y = some (w, t) := fun {w} hw => by
            unfold appX; rw [e3, hl]; simp only [if_pos hz, e2, ho, e1, hev]; exact hw
          cases ys with
          | nil => cases h; exact put1 (hap rfl) (hacct.trans hacc.symm)
          | cons y0 yr =>
            obtain ⟨f1, rfl, rfl⟩ := fin h
            exact put1 (hap (by simp only []; rw [if_pos f1])) (hacct.trans hacc.symm)
        · rename_i z xs hev
          have hacc := acc_app_cp (d := d) (g := g) (sz := sz) (b := b) (y := y) ho hev
          have hown : ALoc.own n ∈ (accOf s ⟨d, .app sz b (.t n) y, g⟩).1 := by
            simp only [accOf, hacc]; split <;> simp
          have e2 := hA.owned (.t n) fun l hl' => by simp only [ownLoc, List.mem_singleton] at hl'; subst hl'; exact hown
          have ecp : cpGet t.cp n = cpGet s.cp n := by
            cases hc : cpGet s.cp n with
            | none => rw [← hA.any (by simp only [accOf, hacc, hc]; simp) n, hc]
            | some l => rw [← hA.cf n (by simp only [accOf, hacc, hc]; cases l <;> simp), hc]
          have hacct : accK t ⟨d, .app sz b (.t n) y, g⟩ = accK s ⟨d, .app sz b (.t n) y, g⟩ := by
            rw [hacc, acc_app_cp (e2.trans ho) (e1.trans hev), ecp]
          have hap : ∀ {w t'}, (match cpGet s.cp n with
            | some (.t m) => (match getT t.tm m with
              | .os z' xs' => if z' = sz then (if (xs'.length + ys.length) * b ≤ 140737488355328 then some (AV.os sz (xs' ++ ys), t.lose m) else none) else none
              | _ => none)
            | some (.c r off) => (match refGet t.frs r with
              | some (.cells cs) => (match cellAt cs off with
                | some (.os z' xs') => if z' = sz then (if (xs'.length + ys.length) * b ≤ 140737488355328 then some (AV.os sz (xs' ++ ys), t.setFrs (refSet t.frs r (.cells (setAt cs off (.d (.sl z' xs')))))) else none) else none
                | _ => none)
              | _ => none)
            | some (.o o off) => (match hGet t.hp o with
              | some (.cells cs) => (match cellAt cs off with
                | some (.os z' xs') => if z' = sz then (if (xs'.length + ys.length) * b ≤ 140737488355328 then some (AV.os sz (xs' ++ ys), { t with hp := hSet t.hp o (.cells (setAt cs off (.d (.sl z' xs')))) }) else none) else none
                | _ => none)
              | _ => none)
            | none => match (generalizing := false) ys with | [] => some (.d (.sl z xs), t) | _ :: _ => none) = some (w, t') → appX t sz b (.t n) y = some (w, t') := fun {w t'} hw => by
            unfold appX; rw [e3, hl]; simp only [if_pos hz, e2, ho, e1, hev, ecp]; exact hw
          cases hc : cpGet s.cp n with
          | none =>
            simp only [hc] at h hap
            cases ys with
            | nil => cases h; exact put1 (hap rfl) hacct
            | cons y0 yr => cases h
          | some l =>
            cases l with
            | t m =>
              simp only [hc] at h hap hacc
              have hm := hA.ow m (by simp [accOf, hacc])
              split at h
              · rename_i z' xs' hg
                split at h
                · rename_i hzz
                  obtain ⟨f1, rfl, rfl⟩ := fin h
                  have hlo := Pt.lose hs ht (n := m) hm
                  refine ⟨(t.lose m).put d (.os sz (xs' ++ ys)), ?_, by simp only [accOf, hacct], moves_then hlo _ (fun k hk => ?_) (by simp) (by simp) (by simp) (by simp)⟩
                  · simp only [opF, hap (w := .os sz (xs' ++ ys)) (t' := t.lose m) (by rw [← hm, hg]; simp only []; rw [if_pos hzz, if_pos f1]), Option.map_some]
                  · simp only [List.mem_singleton] at hk; subst hk; simp [accOf, hacc]
                · cases h
              · cases h
            | c r off =>
              simp only [hc] at h hap hacc
              have hr : refLoc r ∈ (accOf s ⟨d, .app sz b (.t n) y, g⟩).1 := by simp [accOf, hacc]
              have hrf := hA.m.ref hr
              split at h
              · rename_i cs hcs
                split at h
                · rename_i z' xs' hcell
                  split at h
                  · rename_i hzz
                    obtain ⟨f1, rfl, rfl⟩ := fin h
                    obtain ⟨B, u, p1, p2, p3⟩ := setFrs_loc (o' := .cells (setAt cs off (.d (.sl z' xs')))) hs ht hA.m hr hcs
                    refine ⟨(t.setFrs (refSet t.frs r (.cells (setAt cs off (.d (.sl z' xs')))))).put d (.os sz (xs' ++ ys)), ?_, by simp only [accOf, hacct], moves_then p1 _ (by simp) (fun k hk => ?_) (fun hu => ?_) (by simp) (by simp)⟩
                    · simp only [opF, hap (w := .os sz (xs' ++ ys)) (t' := t.setFrs (refSet t.frs r (.cells (setAt cs off (.d (.sl z' xs')))))) (by rw [hrf, hcs]; simp only [hcell]; rw [if_pos hzz, if_pos f1]), Option.map_some]
                    · have := p2 k hk; simp only [List.mem_singleton] at this; simp [accOf, hacc, this]
                    · have := p3 hu; simp only [List.mem_singleton] at this; simp [accOf, hacc, ← this]
                  · cases h
                · cases h
              · cases h
            | o o off =>
              simp only [hc] at h hap hacc
              have hr := hA.hp (by simp [accOf, hacc])
              split at h
              · rename_i cs hcs
                split at h
                · rename_i z' xs' hcell
                  split at h
                  · rename_i hzz
                    obtain ⟨f1, rfl, rfl⟩ := fin h
                    have p1 := Pt.hpd hs ht (hSet s.hp o (.cells (setAt cs off (.d (.sl z' xs')))))
                    refine ⟨({ t with hp := hSet s.hp o (.cells (setAt cs off (.d (.sl z' xs')))) } : St).put d (.os sz (xs' ++ ys)), ?_, by simp only [accOf, hacct], moves_then p1 _ (by simp) (by simp) (by simp) (fun _ => by simp [accOf, hacc]) (by simp)⟩
                    simp only [opF, hap (w := .os sz (xs' ++ ys)) (t' := { t with hp := hSet s.hp o (.cells (setAt cs off (.d (.sl z' xs')))) }) (by rw [← hr, hcs]; simp only [hcell]; rw [if_pos hzz, if_pos f1]), Option.map_some]
                  · cases h
                · cases h
              · cases h
        · cases h

/-- An operation looks at its own places alone. -/
theorem loc_op (hs : CpU s.cp) (ht : CpU t.cp) (hA : Ag (rdT k) (accOf s ⟨d, k, g⟩).1 s t) (h : opF ⟨d, k, g⟩ s = some s') : LocC d k g s t s' := by
  cases k with
  | mv x => exact loc_mv hs ht hA h
  | asg x => exact loc_asg hs ht hA h
  | alloc z hh => exact loc_alloc hs ht hA h
  | box n x hh => exact loc_box hs ht hA h
  | load ag n x => exact loc_load hs ht hA h
  | store n x y => exact loc_store hs ht hA h
  | len n x =>
    by_cases hn : n < 2
    · exact loc_pure hs ht hA h hn
    · exact loc_lenM hs ht (by omega) hA h
  | app sz b x y => exact loc_app hs ht hA h
  | mkm hh => exact loc_mkm hs ht hA h
  | lookup z e x y ok => exact loc_lookup hs ht hA h
  | mupd e m x y => exact loc_mupd hs ht hA h
  | del e m x => exact loc_del hs ht hA h
  | call f as => cases h
  | bad => cases h
  | _ => exact loc_pure hs ht hA h trivial

end
end Go.Px

/- Draws: steps, and two of them in the other order. -/
namespace Go.Px

abbrev Acc := List ALoc × List ALoc

def wantV (want : Bool) : AV → Option Bool
  | .d (.b x) => some (x == want)
  | .tup _ => some false
  | _ => none

def Want (s : St) : Option (Nat × Bool) → Option Bool
  | none => some true
  | some (t, want) => wantV want (getT s.tm t)

def calleeOf (s : St) (f : XV) (args : List XV) : Option (FuncId × List AV) :=
  match ev s f with
  | .fn g cs => some (g, args.map (ev s) ++ cs)
  | .d (.fd g ds) => some (g, args.map (ev s) ++ ds.map .d)
  | _ => none

inductive Step (E : Env) (o : XO) (s : St) : Acc → St → Prop
  | skip (h : Want s o.g = some false) : Step E o s ([], dstLoc o.dst) (s.put o.dst (.tup []))
  | op {s' : St} (h : Want s o.g = some true) (ho : opF o s = some s') : Step E o s (accOf s o) s'
  | call1 {f : XV} {args : List XV} {g : FuncId} {as : List AV} {ds : List DV} {v : AV} (h : Want s o.g = some true) (hk : o.k = .call f args) (hc : calleeOf s f args = some (g, as)) (hd : AV.toDL as = some ds)
      (hC : CA E g (ds.map .d) [] none (fun r _ _ => r = v)) : Step E o s ([], dstLoc o.dst) (s.put o.dst v)
  | call2 {f : XV} {args : List XV} {g : FuncId} {as : List AV} {ds : List DV} {v : AV} {H' : Option (List BObj)} (h : Want s o.g = some true) (hk : o.k = .call f args) (hc : calleeOf s f args = some (g, as)) (hd : AV.toDL as = some ds)
      (hC : CA E g (ds.map .d) [] s.hp (fun r _ H => r = v ∧ H = H')) : Step E o s ([.hp], dstLoc o.dst ++ [.hp, .fct]) ({ s with hp := H', cp := rmC s.cp }.put o.dst v)
  | call3 {f : XV} {args : List XV} {g : FuncId} {as : List AV} {ds : List DV} {v : AV} (h : Want s o.g = some true) (hk : o.k = .call f args) (hc : calleeOf s f args = some (g, as)) (hd : AV.toDL as = some ds)
      (hC : CA E g (ds.map .d) [] s.hp (fun r _ H => r = v ∧ H = s.hp)) : Step E o s ([.hp], dstLoc o.dst ++ [.fct]) ({ s with cp := rmC s.cp }.put o.dst v)

section
variable {E : Env} {o o1 o2 : XO} {s t s' s1 s2 : St} {a a1 a2 : Acc} {T : List Nat} {R : List ALoc}

theorem wantV_strip (w : Bool) (v : AV) : wantV w v = wantV w v.strip := by cases v <;> rfl

theorem Ag.want (h : Ag o.rdT R s t) : Want t o.g = Want s o.g := by
  cases hg : o.g with
  | none => rfl
  | some p =>
    obtain ⟨n, w⟩ := p
    simp only [Want]
    rw [wantV_strip, wantV_strip w (getT s.tm n), h.ts n (by simp [XO.rdT, hg])]

theorem Ag.callee (h : Ag o.rdT R s t) {f : XV} {args : List XV} (hk : o.k = .call f args) : calleeOf t f args = calleeOf s f args := by
  have e1 := h.ev f fun n hn => by simp [XO.rdT, hk, rdT, hn]
  have e2 := map_ev h args fun n hn => by simp only [XO.rdT, hk, rdT]; exact List.mem_append_right _ (List.mem_append_right _ hn)
  simp only [calleeOf, e1, e2]

theorem Ag.sub {T' : List Nat} (h : Ag T R s t) (hT : ∀ n ∈ T', n ∈ T) : Ag T' R s t := ⟨fun n hn => h.ts n (hT n hn), h.ow, h.bx, h.up, h.hp, h.cf, h.any⟩

/-- A step looks at its own places alone. -/
theorem loc_step (hs : CpU s.cp) (ht : CpU t.cp) (h : Step E o s a s') (hA : Ag o.rdT a.1 s t) : ∃ t', Step E o t a t' ∧ Moves o.dst a s s' t t' := by
  cases h with
  | skip h => exact ⟨_, .skip (hA.want.trans h), moves_put hs ht _ _ _⟩
  | op h ho =>
    obtain ⟨t', h1, h2, h3⟩ := loc_op (d := o.dst) (k := o.k) (g := o.g) hs ht (hA.sub fun n hn => by simp [XO.rdT, hn]) ho
    refine ⟨t', ?_, h3⟩
    rw [← h2]; exact .op (hA.want.trans h) h1
  | call1 h hk hc hd hC => exact ⟨_, .call1 (hA.want.trans h) hk ((hA.callee hk).trans hc) hd hC, moves_put hs ht _ _ _⟩
  | @call2 f args g as ds v H' h hk hc hd hC =>
    have hp := hA.hp (by simp)
    have h1 := (Pt.hpd hs ht H').trans (.rmC (s := { s with hp := H' }) (t := { t with hp := H' }) hs ht)
    exact ⟨_, .call2 (hA.want.trans h) hk ((hA.callee hk).trans hc) hd (by rw [← hp]; exact hC), moves_then h1 v (by simp) (by simp) (by simp) (by simp) (by simp)⟩
  | @call3 f args g as ds v h hk hc hd hC =>
    have hp := hA.hp (by simp)
    exact ⟨_, .call3 (hA.want.trans h) hk ((hA.callee hk).trans hc) hd (by rw [← hp]; exact hC), moves_then (.rmC hs ht) v (by simp) (by simp) (by simp) (by simp) (by simp)⟩

theorem Ag.refl (T : List Nat) (R : List ALoc) (s : St) : Ag T R s s := ⟨fun _ _ => rfl, fun _ _ => rfl, fun _ _ => rfl, fun _ => rfl, fun _ => rfl, fun _ _ => rfl, fun _ _ => rfl⟩

theorem step_u (hs : CpU s.cp) (h : Step E o s a s') : CpU s'.cp := by
  obtain ⟨t', _, hm⟩ := loc_step hs hs h (.refl _ _ _)
  obtain ⟨L, B, u, hh, f, hP, _⟩ := hm.ex
  exact hP.su

theorem step_fct (hs : CpU s.cp) (h : Step E o s a s') : FctOk o.dst a.1 s' := by
  obtain ⟨t', _, hm⟩ := loc_step hs hs h (.refl _ _ _)
  exact hm.fs

/-- What an operation that writes tells of its own slot; what it looks at. -/
theorem step_dst (h : Step E o s a s') {n : Nat} (hn : o.dst = some n) : ALoc.own n ∈ a.2 := by
  cases h with
  | op h ho => simp [accOf, dstLoc, hn]
  | _ => simp [dstLoc, hn]

theorem accK_any (h : ALoc.any ∈ (accOf s o).1) : ALoc.any ∈ (accOf s o).2 := by
  simp only [accOf] at h ⊢
  refine List.mem_append_right _ ?_
  revert h
  have hadd : ∀ v : AV, ALoc.any ∉ addrLoc v := by
    intro v
    cases v with
    | bp r off => cases r <;> simp [addrLoc, refLoc]
    | mb r => cases r <;> simp [addrLoc, refLoc]
    | d v => cases v <;> simp [addrLoc]
    | _ => simp [addrLoc]
  have hown : ∀ x : XV, ALoc.any ∉ ownLoc x := by intro x; cases x <;> simp [ownLoc]
  have hnew : ∀ d h, ALoc.any ∉ newLoc d h := by intro d h; cases h <;> cases d <;> simp [newLoc]
  unfold accK
  split
  all_goals try (simp [hadd, hown, hnew]; done)
  · split
    · simp [hadd]
    · split <;> simp [hadd]
  · split
    · split
      · simp
      · split
        · simp
        · split
          · simp
          · rename_i r _ _; cases r <;> simp [refLoc]
          · simp
          · simp
    · simp

theorem step_any (h : Step E o s a s') (ha : ALoc.any ∈ a.1) : ALoc.any ∈ a.2 := by
  cases h with
  | op h ho => exact accK_any ha
  | _ => simp at ha

theorem accK_cf {n : Nat} (h : ALoc.cf n ∈ (accOf s o).1) : ALoc.own n ∈ (accOf s o).1 ∧ (n ∈ o.rdT) ∧ ∃ l, cpGet s.cp n = some l ∧ srcIn (accOf s o).1 l := by
  simp only [accOf] at h ⊢
  revert h
  have hadd : ∀ v : AV, ALoc.cf n ∉ addrLoc v := by
    intro v
    cases v with
    | bp r off => cases r <;> simp [addrLoc, refLoc]
    | mb r => cases r <;> simp [addrLoc, refLoc]
    | d v => cases v <;> simp [addrLoc]
    | _ => simp [addrLoc]
  have hown : ∀ x : XV, ALoc.cf n ∉ ownLoc x := by intro x; cases x <;> simp [ownLoc]
  have hnew : ∀ d h, ALoc.cf n ∉ newLoc d h := by intro d h; cases h <;> cases d <;> simp [newLoc]
  unfold accK
  split
  all_goals try (simp [hadd, hown, hnew]; done)
  · split
    · simp [hadd]
    · split <;> simp [hadd]
  · rename_i sz b x y hk
    split
    · rename_i m
      split
      · simp
      · split
        · simp
        · split
          · rename_i k hc
            intro h
            simp only [List.mem_cons, reduceCtorEq, ALoc.cf.injEq, List.not_mem_nil, or_false, false_or] at h
            subst h
            exact ⟨by simp, by simp [XO.rdT, hk, rdT, xvT], _, hc, by simp [srcIn]⟩
          · rename_i r off hc
            intro h
            have h : n = m := by cases r <;> simpa [refLoc] using h
            subst h
            exact ⟨by simp, by simp [XO.rdT, hk, rdT, xvT], _, hc, by simp [srcIn]⟩
          · rename_i k off hc
            intro h
            simp only [List.mem_cons, reduceCtorEq, ALoc.cf.injEq, List.not_mem_nil, or_false, false_or] at h
            subst h
            exact ⟨by simp, by simp [XO.rdT, hk, rdT, xvT], _, hc, by simp [srcIn]⟩
          · simp
    · simp

theorem step_cf (h : Step E o s a s') {n : Nat} (ha : ALoc.cf n ∈ a.1) : ALoc.own n ∈ a.1 ∧ ∃ l, cpGet s.cp n = some l ∧ srcIn a.1 l := by
  cases h with
  | op h ho => exact ⟨(accK_cf ha).1, (accK_cf ha).2.2⟩
  | _ => simp at ha

/-! ### States that read alike -/

structure Eqv (s t : St) : Prop where
  tm : ∀ n, getT s.tm n = getT t.tm n
  bx : ∀ r, frGet s.bx r = frGet t.bx r
  up : s.up = t.up
  hp : s.hp = t.hp
  cp : ∀ n, cpGet s.cp n = cpGet t.cp n

theorem Eqv.refl (s : St) : Eqv s s := ⟨fun _ => rfl, fun _ => rfl, rfl, rfl, fun _ => rfl⟩
theorem Eqv.trans {u : St} (h : Eqv s t) (k : Eqv t u) : Eqv s u := ⟨fun n => (h.tm n).trans (k.tm n), fun n => (h.bx n).trans (k.bx n), h.up.trans k.up, h.hp.trans k.hp, fun n => (h.cp n).trans (k.cp n)⟩
theorem Eqv.symm (h : Eqv s t) : Eqv t s := ⟨fun n => (h.tm n).symm, fun n => (h.bx n).symm, h.up.symm, h.hp.symm, fun n => (h.cp n).symm⟩
theorem Eqv.ag (h : Eqv s t) (T : List Nat) (R : List ALoc) : Ag T R s t := ⟨fun n _ => by rw [h.tm], fun n _ => h.tm n, fun r _ => h.bx r, fun _ => h.up, fun _ => h.hp, fun n _ => h.cp n, fun _ n => h.cp n⟩

theorem step_eqv (hs : CpU s.cp) (ht : CpU t.cp) (he : Eqv s t) (h : Step E o s a s') : ∃ t', Step E o t a t' ∧ Eqv s' t' := by
  obtain ⟨t', h1, hm⟩ := loc_step hs ht h (he.ag _ _)
  obtain ⟨L, B, u, hh, f, P, _⟩ := hm.ex
  refine ⟨t', h1, ⟨fun n => ?_, fun r => ?_, ?_, ?_, fun n => ?_⟩⟩
  · by_cases hd : o.dst = some n
    · exact (P.dv n hd).symm
    · by_cases hL : n ∈ L
      · exact (P.ow n hd hL).1.symm
      · rw [(P.nt n hd hL).1, (P.nt n hd hL).2, he.tm]
  · by_cases hB : r ∈ B
    · exact (P.bw r hB).symm
    · rw [(P.bn r hB).1, (P.bn r hB).2, he.bx]
  · cases hu : u with
    | true => exact (P.uw hu).symm
    | false => rw [(P.un hu).1, (P.un hu).2, he.up]
  · cases hu : hh with
    | true => exact (P.hw hu).symm
    | false => rw [(P.hn hu).1, (P.hn hu).2, he.hp]
  · by_cases hd : o.dst = some n
    · exact (P.cd n hd).symm
    · rw [(P.cn n hd).1, (P.cn n hd).2, he.cp]

/-! ### Two steps in the other order -/

theorem clash_spec {a b : Acc} (h : clash a b = false) : (∀ x ∈ a.2, x ≠ .any ∧ x ∉ b.1 ∧ x ∉ b.2) ∧ (∀ x ∈ b.2, x ≠ .any ∧ x ∉ a.1 ∧ x ∉ a.2) := by
  simp only [clash, Bool.or_eq_false_iff, List.any_eq_false, Bool.or_eq_true, decide_eq_true_eq, List.contains_iff_mem, not_or] at h
  have h1 : ∀ x ∈ a.2, x ≠ .any ∧ x ∉ b.1 ∧ x ∉ b.2 := fun x hx => ⟨(h.1 x hx).1.1, (h.1 x hx).1.2, (h.1 x hx).2⟩
  exact ⟨h1, fun x hx => ⟨(h.2 x hx).1, (h.2 x hx).2, fun hxa => (h1 x hxa).2.2 hx⟩⟩

theorem apart_spec {x y : XO} (h : x.apart y = true) : (∀ n, x.dst = some n → n ∉ y.rdT ∧ y.dst ≠ some n) ∧ (∀ n, y.dst = some n → n ∉ x.rdT) := by
  simp only [XO.apart, Bool.and_eq_true] at h
  refine ⟨fun n hn => ?_, fun n hn => ?_⟩
  · have := h.1; simp only [hn, Bool.and_eq_true, Bool.not_eq_true', bne_iff_ne, ne_eq] at this
    exact ⟨by simpa using this.1, this.2⟩
  · have := h.2; simp only [hn, Bool.not_eq_true'] at this
    simpa using this

/-- After a step that is apart, the other one's places are as they were. -/
theorem ag_after {d1 : Option Nat} {a1 a2 : Acc} {T2 : List Nat} {s s1 x x' : St} (hm : ∃ L B u h f, Pt d1 L B u h f x x' s s1 ∧ (∀ n ∈ L, ALoc.own n ∈ a1.2) ∧ (∀ r ∈ B, ALoc.box r ∈ a1.2) ∧ (u = true → ALoc.up ∈ a1.2) ∧ (h = true → ALoc.hp ∈ a1.2) ∧ (f = true → ALoc.fct ∈ a1.2))
    (hd : ∀ n, d1 = some n → ALoc.own n ∈ a1.2 ∧ n ∉ T2) (hw : ∀ x ∈ a1.2, x ∉ a2.1) (hany : ALoc.any ∉ a2.1)
    (hcf : ∀ n, ALoc.cf n ∈ a2.1 → ALoc.own n ∈ a2.1 ∧ ((∃ l, cpGet s.cp n = some l ∧ srcIn a2.1 l) ∨ ∃ l, cpGet s1.cp n = some l)) : Ag T2 a2.1 s s1 := by
  obtain ⟨L, B, u, h, f, P, hL, hB, hu, hh, hf⟩ := hm
  refine ⟨fun n hn => ?_, fun n hn => ?_, fun r hr => ?_, fun hr => ?_, fun hr => ?_, fun n hn => ?_, fun ha => absurd ha hany⟩
  · have h1 : d1 ≠ some n := fun e => (hd n e).2 hn
    by_cases h2 : n ∈ L
    · exact ((P.ow n h1 h2).2.2).symm
    · rw [(P.nt n h1 h2).2]
  · have h1 : d1 ≠ some n := fun e => hw _ (hd n e).1 hn
    have h2 : n ∉ L := fun e => hw _ (hL n e) hn
    exact ((P.nt n h1 h2).2).symm
  · exact ((P.bn r fun e => hw _ (hB r e) hr).2).symm
  · refine ((P.un ?_).2).symm
    cases hu' : u with
    | false => rfl
    | true => exact absurd hr (hw _ (hu hu'))
  · refine ((P.hn ?_).2).symm
    cases hu' : h with
    | false => rfl
    | true => exact absurd hr (hw _ (hh hu'))
  · obtain ⟨ho, hc⟩ := hcf n hn
    have h1 : d1 ≠ some n := fun e => hw _ (hd n e).1 ho
    have hfil := (P.cn n h1).2
    rcases hc with ⟨l, hl, hsrc⟩ | ⟨l, hl⟩
    · rw [hfil, hl]
      have hk : kpt d1 f l = true := by
        cases l with
        | t m =>
          simp only [kpt, bne_iff_ne, ne_eq]
          intro e
          exact hw _ (hd m e).1 hsrc
        | c r off =>
          simp only [kpt, Bool.not_eq_true']
          cases hf' : f with
          | false => rfl
          | true => exact absurd hsrc (hw _ (hf hf'))
        | o b off =>
          simp only [kpt, Bool.not_eq_true']
          cases hf' : f with
          | false => rfl
          | true => exact absurd hsrc (hw _ (hf hf'))
      simp [Option.filter, hk]
    · rw [hl] at hfil
      rw [hl]
      exact (Option.filter_eq_some_iff.1 hfil.symm).1

theorem swap (hs : CpU s.cp) (h1 : Step E o1 s a1 s1) (h2 : Step E o2 s1 a2 s2) (hc : clash a1 a2 = false) (hap : o1.apart o2 = true) :
    ∃ t1 t2, Step E o2 s a2 t1 ∧ Step E o1 t1 a1 t2 ∧ Eqv t2 s2 := by
  obtain ⟨c1, c2⟩ := clash_spec hc
  obtain ⟨p1, p2⟩ := apart_spec hap
  have u1 := step_u hs h1
  have hm1 := loc_step hs hs h1 (.refl _ _ _)
  obtain ⟨_, _, hm1⟩ := hm1
  -- the second one first
  have hA2 : Ag o2.rdT a2.1 s s1 := by
    refine ag_after (d1 := o1.dst) (a1 := a1) (x := s) (x' := s1) ?_ (fun n hn => ⟨step_dst h1 hn, (p1 n hn).1⟩) (fun x hx => (c1 x hx).2.1) (fun ha => (c2 _ (step_any h2 ha)).1 rfl) (fun n hn => ?_)
    · obtain ⟨L, B, u, h, f, P, r⟩ := hm1.ex
      refine ⟨L, B, u, h, f, ⟨fun n hn => rfl, fun n hd hl => ⟨rfl, (P.ow n hd hl).2.1, (P.ow n hd hl).2.1⟩, fun n hd hl => ⟨(P.nt n hd hl).1, (P.nt n hd hl).1⟩, fun r hr => rfl, fun r hr => ⟨(P.bn r hr).1, (P.bn r hr).1⟩, fun _ => rfl, fun hu => ⟨(P.un hu).1, (P.un hu).1⟩, fun _ => rfl, fun hu => ⟨(P.hn hu).1, (P.hn hu).1⟩, fun _ _ => rfl, fun n hd => ⟨(P.cn n hd).1, (P.cn n hd).1⟩, P.su, P.su⟩, r⟩
    · obtain ⟨q1, l, q2, _⟩ := step_cf h2 hn
      exact ⟨q1, .inr ⟨l, q2⟩⟩
  have hA2' : Ag o2.rdT a2.1 s1 s := ⟨fun n hn => (hA2.ts n hn).symm, fun n hn => (hA2.ow n hn).symm, fun n hn => (hA2.bx n hn).symm, fun hn => (hA2.up hn).symm, fun hn => (hA2.hp hn).symm, fun n hn => (hA2.cf n hn).symm, fun ha n => (hA2.any ha n).symm⟩
  obtain ⟨t1, g1, m2⟩ := loc_step u1 hs h2 hA2'
  have ut1 := step_u hs g1
  have hA1 : Ag o1.rdT a1.1 s t1 := by
    refine ag_after (d1 := o2.dst) (a1 := a2) (x := s1) (x' := s2) m2.ex (fun n hn => ⟨step_dst h2 hn, p2 n hn⟩) (fun x hx => (c2 x hx).2.1) (fun ha => (c1 _ (step_any h1 ha)).1 rfl) (fun n hn => ?_)
    obtain ⟨q1, l, q2, q3⟩ := step_cf h1 hn
    exact ⟨q1, .inl ⟨l, q2, q3⟩⟩
  obtain ⟨t2, g2, m1⟩ := loc_step hs ut1 h1 hA1
  refine ⟨t1, t2, g1, g2, ?_⟩
  have f1 := m1.fs
  have f1t := m1.ft
  have f2 := m2.fs
  have f2t := m2.ft
  obtain ⟨L1, B1, v1, h1', e1, P1, l1, b1, x1, y1, z1⟩ := m1.ex
  obtain ⟨L2, B2, v2, h2', e2, P2, l2, b2, x2, y2, z2⟩ := m2.ex
  have keep : ∀ {d : Option Nat} {e : Bool} {a b : Acc} {l : OL}, srcIn a.1 l → (∀ x ∈ b.2, x ∉ a.1) → (∀ n, d = some n → ALoc.own n ∈ b.2) → (e = true → ALoc.fct ∈ b.2) → kpt d e l = true := by
    intro d e a b l hsrc hb hd he
    cases l with
    | t m =>
      simp only [kpt, bne_iff_ne, ne_eq]
      intro e; exact hb _ (hd m e) hsrc
    | c r off =>
      simp only [kpt, Bool.not_eq_true']
      cases hf' : e with
      | false => rfl
      | true => exact absurd hsrc (hb _ (he hf'))
    | o b off =>
      simp only [kpt, Bool.not_eq_true']
      cases hf' : e with
      | false => rfl
      | true => exact absurd hsrc (hb _ (he hf'))
  refine ⟨fun n => ?_, fun r => ?_, ?_, ?_, fun n => ?_⟩
  · by_cases hd1 : o1.dst = some n
    · have hd2 : o2.dst ≠ some n := (p1 n hd1).2
      have hn2 : n ∉ L2 := fun hl => (c1 _ (step_dst h1 hd1)).2.2 (l2 n hl)
      rw [P1.dv n hd1, (P2.nt n hd2 hn2).1]
    · by_cases hd2 : o2.dst = some n
      · have hn1 : n ∉ L1 := fun hl => (c2 _ (step_dst h2 hd2)).2.2 (l1 n hl)
        rw [(P1.nt n hd1 hn1).2, P2.dv n hd2]
      · by_cases hn1 : n ∈ L1
        · have hn2 : n ∉ L2 := fun hl => (c1 _ (l1 n hn1)).2.2 (l2 n hl)
          rw [(P1.ow n hd1 hn1).1, (P2.nt n hd2 hn2).1]
        · by_cases hn2 : n ∈ L2
          · rw [(P1.nt n hd1 hn1).2, (P2.ow n hd2 hn2).1]
          · rw [(P1.nt n hd1 hn1).2, (P2.nt n hd2 hn2).2, (P2.nt n hd2 hn2).1, (P1.nt n hd1 hn1).1]
  · by_cases hn1 : r ∈ B1
    · have hn2 : r ∉ B2 := fun hl => (c1 _ (b1 r hn1)).2.2 (b2 r hl)
      rw [P1.bw r hn1, (P2.bn r hn2).1]
    · by_cases hn2 : r ∈ B2
      · rw [(P1.bn r hn1).2, P2.bw r hn2]
      · rw [(P1.bn r hn1).2, (P2.bn r hn2).2, (P2.bn r hn2).1, (P1.bn r hn1).1]
  · cases hu1 : v1 with
    | true =>
      have hu2 : v2 = false := by cases hu2 : v2 with
        | false => rfl
        | true => exact absurd (x2 hu2) (c1 _ (x1 hu1)).2.2
      rw [P1.uw hu1, (P2.un hu2).1]
    | false =>
      rw [(P1.un hu1).2]
      cases hu2 : v2 with
      | true => exact P2.uw hu2
      | false => rw [(P2.un hu2).2, (P2.un hu2).1, (P1.un hu1).1]
  · cases hu1 : h1' with
    | true =>
      have hu2 : h2' = false := by cases hu2 : h2' with
        | false => rfl
        | true => exact absurd (y2 hu2) (c1 _ (y1 hu1)).2.2
      rw [P1.hw hu1, (P2.hn hu2).1]
    | false =>
      rw [(P1.hn hu1).2]
      cases hu2 : h2' with
      | true => exact P2.hw hu2
      | false => rw [(P2.hn hu2).2, (P2.hn hu2).1, (P1.hn hu1).1]
  · by_cases hd1 : o1.dst = some n
    · have hd2 : o2.dst ≠ some n := (p1 n hd1).2
      rw [P1.cd n hd1, (P2.cn n hd2).1]
      cases hl : cpGet s1.cp n with
      | none => rfl
      | some l => simp [Option.filter, keep (f1 n hd1 l hl) (fun x hx => (c2 x hx).2.1) (fun m hm => step_dst h2 hm) z2]
    · by_cases hd2 : o2.dst = some n
      · rw [(P1.cn n hd1).2, P2.cd n hd2]
        cases hl : cpGet s2.cp n with
        | none => rfl
        | some l => simp [Option.filter, keep (f2 n hd2 l hl) (fun x hx => (c1 x hx).2.1) (fun m hm => step_dst h1 hm) z1]
      · rw [(P1.cn n hd1).2, (P2.cn n hd2).2, (P2.cn n hd2).1, (P1.cn n hd1).1]
        cases hl : cpGet s.cp n with
        | none => rfl
        | some l => cases hk1 : kpt o1.dst e1 l <;> cases hk2 : kpt o2.dst e2 l <;> simp [Option.filter, hk1, hk2]

end
end Go.Px

/- Draws: any order comes to the same. -/
namespace Go.Px

structure Ent where
  i : Nat
  o : XO
  a : Acc

inductive Chain (E : Env) : St → List Ent → St → Prop
  | nil (s : St) : Chain E s [] s
  | cons {s s1 s2 : St} {e : Ent} {l : List Ent} (h : Step E e.o s e.a s1) (t : Chain E s1 l s2) : Chain E s (e :: l) s2

section
variable {E : Env} {s t s' s1 s2 : St}

theorem chain_eqv : ∀ {l : List Ent} {s s' t : St}, Chain E s l s' → CpU s.cp → CpU t.cp → Eqv s t → ∃ t', Chain E t l t' ∧ Eqv s' t' := by
  intro l
  induction l with
  | nil => intro s s' t h _ _ he; cases h; exact ⟨t, .nil t, he⟩
  | cons e l ih =>
    intro s s' t h hs ht he
    cases h with
    | cons h1 h2 =>
      obtain ⟨t1, g1, g2⟩ := step_eqv hs ht he h1
      obtain ⟨t', g3, g4⟩ := ih h2 (step_u hs h1) (step_u ht g1) g2
      exact ⟨t', .cons g1 g3, g4⟩

/-- An entry that is apart from those ahead of it may come first. -/
theorem front : ∀ (p : List Ent) (e : Ent) (q : List Ent) (s s' : St), Chain E s (p ++ e :: q) s' → CpU s.cp → (∀ x ∈ p, clash x.a e.a = false ∧ x.o.apart e.o = true) → ∃ s'', Chain E s (e :: (p ++ q)) s'' ∧ Eqv s'' s' := by
  intro p
  induction p with
  | nil => intro e q s s' h _ _; exact ⟨s', h, .refl s'⟩
  | cons x p ih =>
    intro e q s s' h hs hx
    cases h with
    | @cons _ s1 _ _ _ h1 h2 =>
      have u1 := step_u hs h1
      obtain ⟨s3, g1, g2⟩ := ih e q s1 s' h2 u1 fun y hy => hx y (List.mem_cons_of_mem _ hy)
      cases g1 with
      | @cons _ s2 _ _ _ k1 k2 =>
        obtain ⟨c1, c2⟩ := hx x List.mem_cons_self
        obtain ⟨t1, t2, r1, r2, r3⟩ := swap hs h1 k1 c1 c2
        have ut1 := step_u hs r1
        obtain ⟨s4, k3, k4⟩ := chain_eqv k2 (step_u u1 k1) (step_u ut1 r2) r3.symm
        exact ⟨s4, .cons r1 (.cons r2 k3), k4.symm.trans g2⟩

/-! ### The listed order -/

theorem guardX_want {o : XO} {A B : Prop} (h : guardX s o.g A B) : (Want s o.g = some true ∧ A) ∨ (Want s o.g = some false ∧ B) := by
  unfold guardX at h
  unfold Want
  cases hg : o.g with
  | none => rw [hg] at h; exact .inl ⟨rfl, h⟩
  | some p =>
    obtain ⟨n, w⟩ := p
    rw [hg] at h
    simp only at h ⊢
    split at h
    · rename_i x hx
      rw [hx]
      by_cases e : x = w
      · exact .inl ⟨by simp [wantV, e], h.1 e⟩
      · exact .inr ⟨by simp [wantV, e], h.2 (by cases x <;> cases w <;> simp_all)⟩
    · rename_i l hx; rw [hx]; exact .inr ⟨rfl, h⟩
    · exact h.elim

theorem opD_step {o : XO} {ok : Acc → Bool} {K : Acc → St → Prop} (hw : Want s o.g = some true) (h : opD E o ok K s) : ∃ a s', Step E o s a s' ∧ ok a = true ∧ K a s' := by
  unfold opD at h
  have key : ∀ {f args g as}, o.k = .call f args → calleeOf s f args = some (g, as) → callD E o.dst ok K s g as → ∃ a s', Step E o s a s' ∧ ok a = true ∧ K a s' := by
    intro f args g as hk hc h
    unfold callD at h
    split at h
    · rename_i ds hds
      rcases h with ⟨hok, v, hC, hK⟩ | ⟨hok, v, H', hC, hK⟩ | ⟨hok, v, hC, hK⟩
      · exact ⟨_, _, .call1 hw hk hc hds hC, hok, hK⟩
      · exact ⟨_, _, .call2 hw hk hc hds hC, hok, hK⟩
      · exact ⟨_, _, .call3 hw hk hc hds hC, hok, hK⟩
    · exact h.elim
  split at h
  · rename_i f args hk
    split at h
    · rename_i g cs e; exact key hk (by simp only [calleeOf, e]) h
    · rename_i g ds e; exact key hk (by simp only [calleeOf, e]) h
    · exact h.elim
  · obtain ⟨s', hs', hK⟩ := optK_some h.2
    exact ⟨_, s', .op hw hs', h.1, hK⟩

theorem okD_spec {u : List Nat} {un : List (List Nat)} {ac : List (Nat × Acc)} {a : Acc} (h : okD (u :: un) ac a = true) : ∀ i ∈ u, clash (accGet ac i) a = false := by
  intro i hi
  have := List.all_eq_true.1 h i hi
  simpa using this

theorem opsD_chain (U : Nat → List Nat) {K : St → Prop} : ∀ (l : List XO) (j : Nat) (un : List (List Nat)) (ac : List (Nat × Acc)) (s : St), (∀ x, x < l.length → un[x]? = some (U (j + x))) → opsD E j un l ac K s →
    ∃ es s', Chain E s es s' ∧ K s' ∧ es.length = l.length ∧ (∀ (x : Nat) e, es[x]? = some e → e.i = j + x ∧ l[x]? = some e.o) ∧
      (∀ e ∈ es, ∀ i ∈ U e.i, i < j → clash (accGet ac i) e.a = false) ∧ es.Pairwise fun x y => x.i ∈ U y.i → clash x.a y.a = false := by
  intro l
  induction l with
  | nil => intro j un ac s _ h; exact ⟨[], s, .nil s, h, rfl, by simp, by simp, .nil⟩
  | cons o l ih =>
    intro j un ac s hun h
    simp only [opsD] at h
    obtain ⟨u, un', rfl⟩ : ∃ u un', un = u :: un' := by
      have := hun 0 (by simp)
      cases un with
      | nil => cases this
      | cons u un' => exact ⟨u, un', rfl⟩
    have hu : u = U j := by have := hun 0 (by simp); simpa using this
    have hun' : ∀ x, x < l.length → un'[x]? = some (U (j + 1 + x)) := fun x hx => by
      have := hun (x + 1) (by simp; omega)
      rw [List.getElem?_cons_succ] at this
      rw [this]; congr 2; omega
    have fin : ∀ {a : Acc} {s1 : St}, Step E o s a s1 → okD (u :: un') ac a = true → opsD E (j + 1) un' l ((j, a) :: ac) K s1 →
        ∃ es s', Chain E s es s' ∧ K s' ∧ es.length = (o :: l).length ∧ (∀ (x : Nat) e, es[x]? = some e → e.i = j + x ∧ (o :: l)[x]? = some e.o) ∧
          (∀ e ∈ es, ∀ i ∈ U e.i, i < j → clash (accGet ac i) e.a = false) ∧ es.Pairwise fun x y => x.i ∈ U y.i → clash x.a y.a = false := by
      intro a s1 h1 h2 h3
      obtain ⟨es, s', g1, g2, g3, g4, g5, g6⟩ := ih (j + 1) un' ((j, a) :: ac) s1 hun' h3
      have hok := okD_spec h2
      refine ⟨⟨j, o, a⟩ :: es, s', .cons h1 g1, g2, by simp [g3], ?_, ?_, List.pairwise_cons.2 ⟨fun y hy hi => ?_, g6⟩⟩
      · intro x e he
        cases x with
        | zero => cases he; exact ⟨rfl, rfl⟩
        | succ x =>
          rw [List.getElem?_cons_succ] at he ⊢
          obtain ⟨q1, q2⟩ := g4 x e he
          exact ⟨by omega, q2⟩
      · intro e he i hi hlt
        rcases List.mem_cons.1 he with rfl | he
        · exact hok i (by rw [hu]; exact hi)
        · have := g5 e he i hi (by omega)
          simp only [accGet] at this
          rwa [if_neg (by omega)] at this
      · have := g5 y hy j hi (by omega)
        simpa [accGet] using this
    rcases guardX_want h with ⟨hw, h⟩ | ⟨hw, h⟩
    · obtain ⟨a, s1, h1, h2, h3⟩ := opD_step hw h
      exact fin h1 h2 h3
    · exact fin (.skip hw) h.1 h.2

/-! ### What must come ahead -/

theorem insN_mem {l : List Nat} {n k : Nat} : k ∈ insN l n ↔ k = n ∨ k ∈ l := by
  simp only [insN]
  split
  · rename_i h
    have h : n ∈ l := by simpa using h
    constructor
    · exact .inr
    · rintro (rfl | h')
      · exact h
      · exact h'
  · simp

theorem foldl_insN {l acc : List Nat} {k : Nat} : k ∈ l.foldl insN acc ↔ k ∈ l ∨ k ∈ acc := by
  induction l generalizing acc with
  | nil => simp
  | cons a l ih => simp only [List.foldl_cons, ih, insN_mem, List.mem_cons]; constructor
                   · rintro (h | rfl | h)
                     · exact .inl (.inr h)
                     · exact .inl (.inl rfl)
                     · exact .inr h
                   · rintro ((rfl | h) | h)
                     · exact .inr (.inl rfl)
                     · exact .inl h
                     · exact .inr (.inr h)

theorem predsOf_mem {P : List (List Nat)} {o : Oper} {k : Nat} (h : k ∈ predsOf P o) : ∃ e ∈ o.after, Region.binds .any e = true ∧ (k = e.on ∨ k ∈ P.getD e.on []) := by
  unfold predsOf at h
  have key : ∀ (l : List Edge) (acc : List Nat), k ∈ l.foldl (fun l e => if Region.binds .any e then ((P.getD e.on []).foldl insN (insN l e.on)) else l) acc → k ∈ acc ∨ ∃ e ∈ l, Region.binds .any e = true ∧ (k = e.on ∨ k ∈ P.getD e.on []) := by
    intro l
    induction l with
    | nil => intro acc h; exact .inl h
    | cons e l ih =>
      intro acc h
      rw [List.foldl_cons] at h
      rcases ih _ h with h | ⟨e', he', h⟩
      · split at h
        · rename_i hb
          rcases foldl_insN.1 h with h | h
          · exact .inr ⟨e, List.mem_cons_self, hb, .inr h⟩
          · rcases insN_mem.1 h with h | h
            · exact .inr ⟨e, List.mem_cons_self, hb, .inl h⟩
            · exact .inl h
        · exact .inl h
      · exact .inr ⟨e', List.mem_cons_of_mem _ he', h⟩
  rcases key _ _ h with h | ⟨e, he, h⟩
  · cases h
  · exact ⟨e, by simpa using he, h⟩

theorem predsL_pre (l : List Oper) : ∀ P, ∃ Q, predsL P l = P ++ Q ∧ Q.length = l.length := by
  induction l with
  | nil => intro P; exact ⟨[], by simp [predsL], rfl⟩
  | cons o l ih =>
    intro P
    obtain ⟨Q, h1, h2⟩ := ih (P ++ [predsOf P o])
    exact ⟨predsOf P o :: Q, by simp [predsL, h1], by simp [h2]⟩

theorem predsL_spec (l : List Oper) : ∀ (P : List (List Nat)) (j : Nat) o, l[j]? = some o → ∃ P', (predsL P l)[P.length + j]? = some (predsOf P' o) ∧ ∃ Q, predsL P l = P' ++ Q := by
  induction l with
  | nil => intro P j o h; simp at h
  | cons o' l ih =>
    intro P j o h
    cases j with
    | zero =>
      cases h
      obtain ⟨Q, h1, _⟩ := predsL_pre l (P ++ [predsOf P o'])
      refine ⟨P, ?_, [predsOf P o'] ++ Q, by simp [predsL, h1]⟩
      simp [predsL, h1]
    | succ j =>
      obtain ⟨P', h1, Q, h2⟩ := ih (P ++ [predsOf P o']) j o (by simpa using h)
      refine ⟨P', ?_, Q, h2⟩
      simp only [predsL]
      rw [← h1]
      congr 1
      simp; omega

/-- Those that must come ahead of an operation: as far as they are told. -/
def predAt (ops : Array Oper) (i : Nat) : List Nat := ((predsL [] ops.toList)[i]?).getD []

theorem predAt_step {ops : Array Oper} {i k : Nat} {o : Oper} (ho : ops[i]? = some o) (hk : k ∈ predAt ops i) : ∃ e ∈ o.after, Region.binds .any e = true ∧ (k = e.on ∨ k ∈ predAt ops e.on) := by
  obtain ⟨P', h1, Q, h2⟩ := predsL_spec ops.toList [] i o (by simpa using ho)
  simp only [List.length_nil, Nat.zero_add] at h1
  simp only [predAt, h1, Option.getD_some] at hk
  obtain ⟨e, he, hb, hk⟩ := predsOf_mem hk
  refine ⟨e, he, hb, hk.imp id fun hk => ?_⟩
  simp only [predAt, h2]
  by_cases hlt : e.on < P'.length
  · rw [List.getElem?_append_left hlt, ← List.getD_eq_getElem?_getD]; exact hk
  · rw [List.getD_eq_getElem?_getD, List.getElem?_eq_none (by omega)] at hk
    cases hk

theorem unordL_get (l : List (List Nat)) : ∀ j x, x < l.length → (unordL j l)[x]? = some ((List.range (j + x)).filter fun i => !(l.getD x []).contains i) := by
  induction l with
  | nil => intro j x h; simp at h
  | cons p l ih =>
    intro j x h
    cases x with
    | zero => simp [unordL]
    | succ x =>
      simp only [unordL, List.getElem?_cons_succ]
      rw [ih (j + 1) x (by simpa using h)]
      simp only [List.getD_cons_succ]
      congr 3
      omega

def unAt (ops : Array Oper) (i : Nat) : List Nat := (List.range i).filter fun k => !(predAt ops i).contains k

theorem unord_get {ops : Array Oper} {x : Nat} (h : x < ops.size) : (unord ops)[x]? = some (unAt ops x) := by
  have hl : (predsL [] ops.toList).length = ops.size := by
    obtain ⟨Q, h1, h2⟩ := predsL_pre ops.toList []
    rw [h1]; simpa using h2
  unfold unord
  rw [unordL_get _ 0 x (by omega)]
  simp only [unAt, predAt, Nat.zero_add, List.getD_eq_getElem?_getD]

theorem apartsL_spec {os : List XO} : ∀ (un : List (List Nat)) (l : List XO) (x : Nat) (u : List Nat) (o : XO), apartsL os un l = true → un[x]? = some u → l[x]? = some o → ∀ i ∈ u, ∀ p, os[i]? = some p → p.apart o = true := by
  intro un
  induction un with
  | nil => intro l x u o _ h; simp at h
  | cons u0 un ih =>
    intro l x u o h hu ho i hi p hp
    cases l with
    | nil => simp at ho
    | cons o0 l =>
      simp only [apartsL, Bool.and_eq_true] at h
      cases x with
      | zero =>
        cases hu; cases ho
        have := List.all_eq_true.1 h.1 i hi
        simpa [hp] using this
      | succ x => exact ih l x u o h.2 (by simpa using hu) (by simpa using ho) i hi p hp

theorem backL_spec : ∀ (l : List Oper) (j x : Nat) (o : Oper), backL j l = true → l[x]? = some o → ∀ e ∈ o.after, Region.binds .any e = true → e.on < j + x := by
  intro l
  induction l with
  | nil => intro j x o _ h; simp at h
  | cons o0 l ih =>
    intro j x o h ho e he hb
    simp only [backL, Bool.and_eq_true] at h
    cases x with
    | zero =>
      cases ho
      have := List.all_eq_true.1 h.1 e (by simpa using he)
      simpa [hb] using this
    | succ x =>
      have := ih (j + 1) x o h.2 (by simpa using ho) e he hb
      omega

/-! ### Any order -/

theorem RS.eqv {g : Gh} {oT : Nat → Option Nat} {a : Act} {w : World} (h : RS E g oT s a w) (he : Eqv s t) (hs : CpU s.cp) (ht : CpU t.cp) : RS E g oT t a w := by
  have hcp : ∀ n l, (n, l) ∈ t.cp → (n, l) ∈ s.cp := fun n l hl => (cpGet_iff hs n l).1 ((he.cp n).trans ((cpGet_iff ht n l).2 hl))
  have hpl : ∀ p, plGet t.frs t.hp p = plGet s.frs s.hp p := by
    intro p
    cases p with
    | fr r => cases r with
      | loc n => exact (he.bx n).symm
      | up r => simp only [plGet, St.frs, refGet, he.up]
    | ob i => simp only [plGet, he.hp]
  refine ⟨⟨h.m.below, ?_, ?_, fun p o hp => h.m.con p o (by rw [← hpl]; exact hp), ?_, ?_, ?_, h.m.inj, h.m.lt⟩, fun n => by rw [← he.tm]; exact h.tm n, fun n sz xs e => h.ot n sz xs (by rw [he.tm]; exact e), fun n b hb => by rw [← he.hp]; exact h.on n b hb, h.oi,
    fun n l hl => by rw [← he.hp]; exact h.cp n l (hcp n l hl), fun n x hx => by rw [← he.bx]; exact h.clT n x (by rw [he.tm]; exact hx), fun r cs hr c hc x hx => by rw [← he.bx]; exact h.clB r cs (by rw [he.bx]; exact hr) c hc x hx, fun n r off hl x hx => by rw [← he.bx]; exact h.clC n r off (hcp n _ hl) x hx⟩
  · have := h.m.len; simp only [St.frs, List.length_cons] at this ⊢; rw [← he.up]; exact this
  · rw [← he.hp]; exact h.m.hlen
  · rw [← he.hp]; exact h.m.nd
  · rw [← he.hp]; exact h.m.new
  · rw [← he.hp]; exact h.m.own

theorem RS.dropC {g : Gh} {oT : Nat → Option Nat} {a : Act} {w : World} {cp : List (Nat × OL)} (h : RS E g oT s a w) (hc : ∀ e ∈ cp, e ∈ s.cp) : RS E g oT { s with cp := cp } a w :=
  ⟨h.m, h.tm, h.ot, h.on, h.oi, fun n l hl => h.cp n l (hc _ hl), h.clT, h.clB, fun n r off hl => h.clC n r off (hc _ hl)⟩

theorem RS.drew {g : Gh} {oT : Nat → Option Nat} {a : Act} {w : World} (h : RS E g oT s a w) : RS E g oT s a { w with drawn := w.drawn + 1 } := by
  have hw : ∀ b : Nat, ({ w with drawn := w.drawn + 1 } : World).heap[b]? = w.heap[b]? := fun b => rfl
  have := h.grow ({ w with drawn := w.drawn + 1 } : World) g.I (Nat.le_refl _) rfl rfl rfl (fun b _ => hw b) (fun b hb => ⟨hw b, (h.m.new b hb).2.2⟩) (fun _ _ b _ => ⟨hw b, fun _ h => h⟩) (fun _ b _ => ⟨hw b, fun _ h => h⟩) (fun _ _ h => h) (fun b k _ => cell?_of (hw b) k) h.m.lt
  exact this

end
end Go.Px

/- Draws: regions that draw their order. -/
namespace Go.Px
section
variable {E : Env} {s t s' s1 s2 : St} {F : Fence} {n : Nat} {ops : Array Oper} {esc : Nat → Bool}

theorem mem_rmO_of {cp : List (Nat × OL)} {e : Nat × OL} (h : e ∈ cp) (h2 : e.2.isT = true) : e ∈ rmO cp := by
  induction cp with
  | nil => cases h
  | cons p r ih =>
    obtain ⟨a, l⟩ := p
    rcases List.mem_cons.1 h with rfl | h'
    · cases l with
      | t n => exact List.mem_cons_self
      | _ => cases h2
    · cases l with
      | o b o => exact ih h'
      | t n => exact List.mem_cons_of_mem _ (ih h')
      | c r o => exact List.mem_cons_of_mem _ (ih h')

theorem opX_of {x : XO} (h : opF x s = some s1) : opX E x (fun u => u = s1) s := by
  unfold opX
  split
  · rename_i f args e
    exfalso
    obtain ⟨d, k, g⟩ := x
    simp only at e
    subst e
    cases h
  · rw [h]; exact rfl

theorem callK_of {x : XO} {f : XV} {args : List XV} {fid : FuncId} {as : List AV} (hk : x.k = .call f args) (hc : calleeOf s f args = some (fid, as)) {K : St → Prop} (h : CallK E s x.dst fid as K) : opX E x K s := by
  unfold opX
  simp only [hk, callX]
  unfold calleeOf at hc
  split at hc
  · rename_i e; cases hc; simp only [e]; exact h
  · rename_i e; cases hc; simp only [e]; exact h
  · cases hc

/-- A step, taken. -/
theorem step_wp (hF : FOk E.P F) {Q : Exit → Act → World → Prop} {N : Nat} {g : Gh} {oT : Nat → Option Nat} {a : Act} {w : World} {o : Oper} {x : XO} {acc : Acc} (hx : compO E.P esc ops o = some x) (hops : ∀ o ∈ ops.toList, ∀ t, o.dst = some t → t < N) (ho : o ∈ ops.toList)
    (hR : RS E g oT s a w) (hN : a.tmps.size = N) (hst : Step E x s acc s1) {next : Act → World → Prop}
    (hn : ∀ v w' g' oT', RS E g' oT' s1 (a.put o.dst v) w' → Stp g oT s.hp w g' oT' s1.hp w' → next (a.put o.dst v) w') :
    if Region.wanted o (yielded ops a.tmps) = true then o.wpIn F n E.P a w next Q else (∀ f, o.about E.P w a.eval = some f → F.fn f) ∧ next (a.put o.dst undef) w := by
  obtain ⟨gd, rfl, hg⟩ := compO_spec hx
  have hd : ∀ t, o.dst = some t → t < a.tmps.size := by rw [hN]; exact hops o ho
  have hwant : ∀ b, Want s gd = some b → Region.wanted o (yielded ops a.tmps) = b := by
    intro b hb
    rcases hg with ⟨hg, rfl⟩ | ⟨j, t, want, hg, ht, rfl⟩
    · cases hb; simp only [Region.wanted, hg]
    · have hlt : t < a.tmps.size := by
        rw [hN]
        rw [Option.bind_eq_some_iff] at ht
        obtain ⟨o', ho', hdt⟩ := ht
        exact hops o' (by simpa using Array.mem_of_getElem? ho') t hdt
      simp only [Want] at hb
      simp only [Region.wanted, hg]
      cases hv : getT s.tm t with
      | d v =>
        rw [hv] at hb
        cases v with
        | b y =>
          cases hb
          rw [guard_read hR ht hlt hv]
          cases y <;> cases want <;> rfl
        | _ => cases hb
      | tup l =>
        rw [hv] at hb
        cases hb
        rw [guard_none hR ht hlt hv]; rfl
      | _ => rw [hv] at hb; cases hb
  cases hst with
  | skip h =>
    rw [hwant _ h, if_neg (by simp)]
    refine ⟨fun f _ => hF.fn f, hn _ _ _ _ (hR.skip o.dst hd) ?_⟩
    have e : (s.put o.dst (.tup [])).hp = s.hp := by cases o.dst <;> rfl
    rw [e]
    refine Stp.same (fun b hb => ?_) rfl
    rcases mine_put hb with h | h
    · exact .inl h
    · cases h
  | op h hs =>
    rw [hwant _ h, if_pos rfl]
    exact opX_wp hF hR hd esc (opX_of hs) fun v w' g' oT' s' q1 q2 q3 => by subst q3; exact hn v w' g' oT' q1 q2
  | call1 h hk hc hds hC =>
    rename_i f args fid as ds v
    rw [hwant _ h, if_pos rfl]
    refine opX_wp hF hR hd esc (gd := gd) (K := fun u => u = s.put o.dst v) (callK_of hk hc (.inl ?_)) fun v w' g' oT' s' q1 q2 q3 => by subst q3; exact hn v w' g' oT' q1 q2
    rw [hds]
    exact .inl (hC.mono fun r _ _ e => by subst e; rfl)
  | call2 h hk hc hds hC =>
    rename_i f args fid as ds v H'
    rw [hwant _ h, if_pos rfl]
    refine opX_wp hF hR hd esc (gd := gd) (K := fun u => u = { s with hp := H', cp := rmO s.cp }.put o.dst v) (callK_of hk hc (.inl ?_)) fun v' w' g' oT' s' q1 q2 q3 => ?_
    · rw [hds]
      exact .inr (hC.mono fun r _ H e => by obtain ⟨rfl, rfl⟩ := e; rfl)
    · subst q3
      have e1 : ({ s with hp := H', cp := rmC s.cp }.put o.dst v : St) = { ({ s with hp := H', cp := rmO s.cp }.put o.dst v : St) with cp := ({ s with hp := H', cp := rmC s.cp }.put o.dst v : St).cp } := by cases o.dst <;> rfl
      have e2 : ({ s with hp := H', cp := rmC s.cp }.put o.dst v : St).hp = ({ s with hp := H', cp := rmO s.cp }.put o.dst v : St).hp := by cases o.dst <;> rfl
      refine hn v' w' g' oT' ?_ (by rw [e2]; exact q2)
      rw [e1]
      refine q1.dropC fun e he => ?_
      cases hdst : o.dst with
      | none => simp only [hdst, St.put] at he ⊢; obtain ⟨h1, h2⟩ := mem_rmC_iff.1 he; exact mem_rmO_of h1 h2
      | some m =>
        simp only [hdst, St.put] at he ⊢
        obtain ⟨h1, h3⟩ := mem_rmT_iff.1 he
        obtain ⟨h1, h2⟩ := mem_rmC_iff.1 h1
        exact mem_rmT_iff.2 ⟨mem_rmO_of h1 h2, h3⟩
  | call3 h hk hc hds hC =>
    rename_i f args fid as ds v
    rw [hwant _ h, if_pos rfl]
    refine opX_wp hF hR hd esc (gd := gd) (K := fun u => u = { s with hp := s.hp, cp := rmO s.cp }.put o.dst v) (callK_of hk hc (.inl ?_)) fun v' w' g' oT' s' q1 q2 q3 => ?_
    · rw [hds]
      exact .inr (hC.mono fun r _ H e => by obtain ⟨rfl, rfl⟩ := e; rfl)
    · subst q3
      have e1 : ({ s with cp := rmC s.cp }.put o.dst v : St) = { ({ s with hp := s.hp, cp := rmO s.cp }.put o.dst v : St) with cp := ({ s with cp := rmC s.cp }.put o.dst v : St).cp } := by cases o.dst <;> rfl
      have e2 : ({ s with cp := rmC s.cp }.put o.dst v : St).hp = ({ s with hp := s.hp, cp := rmO s.cp }.put o.dst v : St).hp := by cases o.dst <;> rfl
      refine hn v' w' g' oT' ?_ (by rw [e2]; exact q2)
      rw [e1]
      refine q1.dropC fun e he => ?_
      cases hdst : o.dst with
      | none => simp only [hdst, St.put] at he ⊢; obtain ⟨h1, h2⟩ := mem_rmC_iff.1 he; exact mem_rmO_of h1 h2
      | some m =>
        simp only [hdst, St.put] at he ⊢
        obtain ⟨h1, h3⟩ := mem_rmT_iff.1 he
        obtain ⟨h1, h2⟩ := mem_rmC_iff.1 h1
        exact mem_rmT_iff.2 ⟨mem_rmO_of h1 h2, h3⟩

theorem any_sound (hF : FOk E.P F) {Q : Exit → Act → World → Prop} {K : St → Prop} {g0 : Gh} {oT0 : Nat → Option Nat} {h0 : Option (List BObj)} {w0 : World} {N : Nat} {D : List Deferred} {sf : St}
    (hK : ∀ g' oT' s a' w', RS E g' oT' s a' w' → Stp g0 oT0 h0 w0 g' oT' s.hp w' → a'.tmps.size = N → a'.defers = D → K s → Q .normal a' w')
    (hops : ∀ o ∈ ops.toList, ∀ t, o.dst = some t → t < N) (hback : backL 0 ops.toList = true) (hKf : K sf) (huf : CpU sf.cp) :
    ∀ (fuel : Nat) (es : List Ent) (listed : Array Bool) (g : Gh) (oT : Nat → Option Nat) (s : St) (a : Act) (w : World) (s' : St), Chain E s es s' → Eqv s' sf → CpU s.cp → es.length = fuel →
      (∀ e ∈ es, ∃ o, ops[e.i]? = some o ∧ compO E.P esc ops o = some e.o) →
      es.Pairwise (fun x y => x.i < y.i ∧ (x.i ∈ unAt ops y.i → clash x.a y.a = false ∧ x.o.apart y.o = true)) →
      listed.size = ops.size → (∀ j, listed.getD j true = false ↔ ∃ e ∈ es, e.i = j) →
      (∀ j, (¬ ∃ e ∈ es, e.i = j) → ∀ k ∈ predAt ops j, ¬ ∃ e ∈ es, e.i = k) →
      RS E g oT s a w → Stp g0 oT0 h0 w0 g oT s.hp w → a.tmps.size = N → a.defers = D → wpAnyIn F n E.P .any ops Q fuel listed a w := by
  intro fuel
  induction fuel with
  | zero =>
    intro es listed g oT s a w s' hch he hu hlen hops2 hpw hsz hkeys hcl hR hS hN hD
    have : es = [] := List.length_eq_zero_iff.1 hlen
    subst this
    cases hch
    refine ⟨?_, hK g oT sf a w (hR.eqv he hu huf) (by rw [← he.hp]; exact hS) hN hD hKf⟩
    cases hr : Region.ready .any ops listed with
    | nil => rfl
    | cons j l =>
      have := (mem_ready.1 (by rw [hr]; exact List.mem_cons_self : j ∈ Region.ready .any ops listed)).1
      obtain ⟨e, he, _⟩ := (hkeys j).1 this
      cases he
  | succ fuel ih =>
    intro es listed g oT s a w s' hch he hu hlen hops2 hpw hsz hkeys hcl hR hS hN hD
    refine ⟨fun hnil => ?_, fun i hi => ?_⟩
    · exfalso
      cases es with
      | nil => cases hlen
      | cons e0 es' =>
        obtain ⟨o, ho, hc⟩ := hops2 e0 List.mem_cons_self
        have hlt : e0.i < ops.size := (Array.getElem?_eq_some_iff.1 ho).1
        have hmin := (List.pairwise_cons.1 hpw).1
        have hm : e0.i ∈ Region.ready .any ops listed := by
          refine mem_ready.2 ⟨(hkeys _).2 ⟨e0, List.mem_cons_self, rfl⟩, o, ho, fun e' he' hb => ?_⟩
          have hlt' := backL_spec ops.toList 0 e0.i o hback (by simpa using ho) e' he' hb
          simp only [Nat.zero_add] at hlt'
          have hno : ¬ listed.getD e'.on true = false := fun h => by
            obtain ⟨e2, h2, h3⟩ := (hkeys _).1 h
            rcases List.mem_cons.1 h2 with rfl | h2
            · omega
            · have := (hmin e2 h2).1; omega
          have hin : e'.on < listed.size := by omega
          simp only [Array.getD_eq_getD_getElem?, Array.getElem?_eq_getElem hin, Option.getD_some] at hno ⊢
          simpa using hno
        rw [hnil] at hm; cases hm
    · obtain ⟨hli, o, ho, hedge⟩ := mem_ready.1 hi
      obtain ⟨e, hem, rfl⟩ := (hkeys i).1 hli
      obtain ⟨p, q, rfl⟩ := List.append_of_mem hem
      obtain ⟨o', ho', hcomp⟩ := hops2 e (by simp)
      cases ho.symm.trans ho'
      obtain ⟨hp1, hp2, hp3⟩ := List.pairwise_append.1 hpw
      have hq := (List.pairwise_cons.1 hp2).1
      -- what must come ahead has come
      have hdone : ∀ k ∈ predAt ops e.i, ¬ ∃ e' ∈ p ++ e :: q, e'.i = k := by
        intro k hk
        obtain ⟨ed, hed, hb, hk⟩ := predAt_step ho hk
        have hdn : ¬ ∃ e' ∈ p ++ e :: q, e'.i = ed.on := fun h => by
          have h1 := (hkeys ed.on).2 h
          have h2 := hedge ed hed hb
          rcases Nat.lt_or_ge ed.on listed.size with hl | hl
          · simp only [Array.getD_eq_getD_getElem?, Array.getElem?_eq_getElem hl, Option.getD_some] at h1 h2
            rw [h1] at h2; cases h2
          · simp [Array.getD_eq_getD_getElem?, Array.getElem?_eq_none hl] at h1
        rcases hk with rfl | hk
        · exact hdn
        · exact hcl ed.on hdn k hk
      obtain ⟨s'', hch', he'⟩ := front p e q s s' hch hu fun x hx => by
        have h1 := hp3 x hx e List.mem_cons_self
        refine h1.2 ?_
        simp only [unAt, List.mem_filter, List.mem_range, Bool.not_eq_true', List.contains_eq_mem, decide_eq_false_iff_not]
        exact ⟨h1.1, fun hk => hdone _ hk ⟨x, by simp [hx], rfl⟩⟩
      cases hch' with
      | @cons _ s1 _ _ _ hst hrest =>
        have u1 := step_u hu hst
        have homem : o ∈ ops.toList := by simpa using Array.mem_of_getElem? ho
        have hput : ∀ v, (a.put o.dst v).defers = a.defers := fun v => by cases o.dst <;> rfl
        have hne : ∀ e' ∈ p ++ q, e'.i ≠ e.i := fun e' h => by
          rcases List.mem_append.1 h with h | h
          · have := (hp3 e' h e List.mem_cons_self).1; omega
          · have := (hq e' h).1; omega
        have hsub : ∀ e', e' ∈ p ++ q → e' ∈ p ++ e :: q := fun e' h => by
          rcases List.mem_append.1 h with h | h
          · exact List.mem_append_left _ h
          · exact List.mem_append_right _ (List.mem_cons_of_mem _ h)
        have hback' : ∀ e', e' ∈ p ++ e :: q → e'.i ≠ e.i → e' ∈ p ++ q := fun e' h hn => by
          rcases List.mem_append.1 h with h | h
          · exact List.mem_append_left _ h
          · rcases List.mem_cons.1 h with rfl | h
            · exact absurd rfl hn
            · exact List.mem_append_right _ h
        have key : ∀ v w' g' oT', RS E g' oT' s1 (a.put o.dst v) w' → Stp g oT s.hp w g' oT' s1.hp w' → wpAnyIn F n E.P .any ops Q fuel (listed.setIfInBounds e.i true) (a.put o.dst v) w' := by
          intro v w' g' oT' q1 q2
          refine ih (p ++ q) _ g' oT' s1 _ w' s'' hrest (he'.trans he) u1 (by simp only [List.length_append, List.length_cons] at hlen ⊢; omega) (fun e' h => hops2 e' (hsub e' h)) ?_ (by simpa using hsz) ?_ ?_ q1 (hS.trans q2) (by rw [Act.put_size]; exact hN) (by rw [hput]; exact hD)
          · exact hpw.sublist (List.Sublist.append (List.Sublist.refl _) (List.sublist_cons_self _ _))
          · intro j
            by_cases hj : j = e.i
            · subst hj
              constructor
              · intro h
                exfalso
                rcases Nat.lt_or_ge e.i listed.size with hl | hl
                · simp [Array.getD_eq_getD_getElem?, hl] at h
                · simp [Array.getD_eq_getD_getElem?, Array.getElem?_eq_none (by simpa using hl : (listed.setIfInBounds e.i true).size ≤ e.i)] at h
              · rintro ⟨e', h1, h2⟩; exact absurd h2 (hne e' h1)
            · rw [getD_set_ne true (Ne.symm hj), hkeys]
              constructor
              · rintro ⟨e', h1, rfl⟩; exact ⟨e', hback' e' h1 hj, rfl⟩
              · rintro ⟨e', h1, rfl⟩; exact ⟨e', hsub e' h1, rfl⟩
          · intro j hj k hk hex
            obtain ⟨e2, h2, h3⟩ := hex
            by_cases hji : j = e.i
            · subst hji
              exact hdone k hk ⟨e2, hsub e2 h2, h3⟩
            · refine hcl j (fun h => ?_) k hk ⟨e2, hsub e2 h2, h3⟩
              obtain ⟨e4, h4, rfl⟩ := h
              exact hj ⟨e4, hback' e4 h4 hji, rfl⟩
        have := step_wp (n := n) (Q := Q) (next := wpAnyIn F n E.P .any ops Q fuel (listed.setIfInBounds e.i true)) hF hcomp hops homem hR hN hst key
        unfold wpOpIn
        simp only [ho]
        exact this

/-- Regions that draw their order are sound. -/
theorem drawOk (hm : E.P.follows .mixedOrders = true) : DrawOk E := by
  intro F hF n ops esc Q K g0 oT0 h0 w0 N D hK hops xl id g oT st a w hl hchk hR hS hN hD hcp hX
  simp only [Bool.and_eq_true] at hchk
  obtain ⟨hback, hap⟩ := hchk
  obtain ⟨l1, l2⟩ := allSome_spec hl
  have hlen : xl.length = ops.size := by simpa using l1
  obtain ⟨es, sf, hch, hKf, hel, hidx, _, hpw⟩ := opsD_chain (unAt ops) xl 0 (unord ops) [] st (fun x hx => by rw [Nat.zero_add]; exact unord_get (by omega)) hX
  have hu : CpU st.cp := by rw [hcp]; exact List.Pairwise.nil
  have huf : CpU sf.cp := by
    have : ∀ {l : List Ent} {s s' : St}, Chain E s l s' → CpU s.cp → CpU s'.cp := by
      intro l
      induction l with
      | nil => intro s s' h hs; cases h; exact hs
      | cons e l ih => intro s s' h hs; cases h with | cons h1 h2 => exact ih h2 (step_u hs h1)
    exact this hch hu
  refine wpIn_region_any hm (any_sound (esc := esc) hF hK hops hback hKf huf ops.size es _ g oT st a _ sf hch (.refl sf) hu (by omega) ?_ ?_ (by simp) ?_ ?_ hR.drew ?_ hN hD)
  · intro e he
    obtain ⟨x, hx⟩ := List.getElem?_of_mem he
    obtain ⟨h1, h2⟩ := hidx x e hx
    have hlt : x < ops.size := by rw [← hlen]; exact (List.getElem?_eq_some_iff.1 h2).1
    refine ⟨ops[x], by rw [h1, Nat.zero_add]; exact Array.getElem?_eq_getElem hlt, l2 x _ _ (by simp [hlt]) h2⟩
  · rw [List.pairwise_iff_getElem] at hpw ⊢
    intro x y hx hy hxy
    have e1 := hidx x _ (List.getElem?_eq_getElem hx)
    have e2 := hidx y _ (List.getElem?_eq_getElem hy)
    refine ⟨by omega, fun hun => ⟨hpw x y hx hy hxy hun, ?_⟩⟩
    have hyl : y < ops.size := by omega
    refine apartsL_spec (unord ops) xl y (unAt ops y) _ hap (unord_get hyl) e2.2 x ?_ _ e1.2
    rw [e1.1, e2.1, Nat.zero_add, Nat.zero_add] at hun
    exact hun
  · intro j
    constructor
    · intro h
      have hj : j < ops.size := by
        rcases Nat.lt_or_ge j ops.size with hl | hl
        · exact hl
        · simp [Array.getD_eq_getD_getElem?, Array.getElem?_eq_none (by simpa using hl : (Array.replicate ops.size false).size ≤ j)] at h
      have hje : j < es.length := by omega
      exact ⟨es[j], List.getElem_mem hje, by have := (hidx j _ (List.getElem?_eq_getElem hje)).1; omega⟩
    · rintro ⟨e, he, rfl⟩
      obtain ⟨x, hx⟩ := List.getElem?_of_mem he
      have h1 := (hidx x e hx).1
      have hlt : e.i < ops.size := by have := (List.getElem?_eq_some_iff.1 hx).1; omega
      simp [Array.getD_eq_getD_getElem?, hlt]
  · intro j hj k hk
    exfalso
    by_cases hl : j < ops.size
    · have hje : j < es.length := by omega
      exact hj ⟨es[j], List.getElem_mem hje, by have := (hidx j _ (List.getElem?_eq_getElem hje)).1; omega⟩
    · have : (predsL [] ops.toList).length = ops.size := by
        obtain ⟨Q, h1, h2⟩ := predsL_pre ops.toList []
        rw [h1]; simpa using h2
      simp [predAt, List.getElem?_eq_none (by omega : (predsL [] ops.toList).length ≤ j)] at hk
  · exact hS.trans ⟨Nat.le_refl _, rfl, rfl, rfl, fun _ _ h => h, fun b k _ => cell?_of (w' := ({ w with drawn := w.drawn + 1 } : World)) rfl k, fun _ _ _ => ⟨rfl, fun _ h => h⟩, fun _ h => .inl h, List.prefix_refl _, rfl, rfl, fun _ => rfl⟩

end
end Go.Px

