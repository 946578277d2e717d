/- The abstract machine, a part of it: no statement of the claim's own. -/
import Derived.Test.YtcldjplopgmjgaaDoorPxB
import Derived.Laws.IdiomCopy

/- What one operation does: make; append. -/
namespace Go.Px
section
variable {E : Env} {g : Gh} {oT : Nat → Option Nat} {st st' : St} {a : Act} {w : World} {o : Oper} {gd : Option (Nat × Bool)}

theorem run_info {t : TypeId} {n m : Nat} (hn : szP E.P t = some n) (hm : bytesP E.P t = some m) : ∃ i, E.P.info? t = some i ∧ i.size = n ∧ i.bytes = m := by
  simp only [szP, bytesP, Option.map_eq_some_iff] at hn hm
  obtain ⟨i, hi, rfl⟩ := hn
  obtain ⟨j, hj, rfl⟩ := hm
  rw [hi] at hj; cases hj
  exact ⟨i, hi, rfl, rfl⟩

theorem run_typeInfo {t : TypeId} {i : TypeInfo} (hi : E.P.info? t = some i) (w : World) : (typeInfo t).run E.P w = .ok i w := by
  simp [typeInfo, hi]

theorem run_asI (k : IntKind) (n : Int) (w : World) : (asInt (.int k n)).run E.P w = .ok n w := by simp [asInt, asIntOf]

theorem snd_mks (h : RS E g oT st a w) (hd : ∀ t, o.dst = some t → t < a.tmps.size) {t e : TypeId} {l c : Operand} {lv cv : XV} {n m : Nat} {z : DV}
    (hl : opnd l = some lv) (hc : opnd c = some cv) (hz : zeroP E.P e = some z) (hu : E.P.underlying t = some (.slice e)) (hn : szP E.P e = some n) (hm : bytesP E.P e = some m) (hzn : z.cells.length = n) (hn0 : n ≠ 0)
    (hop : o.op = .makeSlice t l c) (hF : opF ⟨o.dst, .mks z m lv cv, gd⟩ st = some st') : Res E (execOp a.eval o) g oT st.hp a w o.dst st' := by
  have hlr := ev_rep h hl
  have hcr := ev_rep h hc
  simp only [opF] at hF
  generalize hle : a.eval l = la at hlr
  generalize hce : a.eval c = ca at hcr
  split at hF
  · rename_i x y e1 e2
    rw [e1] at hlr
    rw [e2] at hcr
    have hlr := hlr.d_inv
    have hcr := hcr.d_inv
    cases hlr
    cases hcr
    split at hF
    · rename_i hb
      obtain ⟨h1, h2, h3, h4⟩ := hb
      simp only [Option.some.injEq] at hF; subst hF
      obtain ⟨i, hi, i1, i2⟩ := run_info hn hm
      obtain ⟨zv, hz1, hz2⟩ := run_zero (w := w) hz
      obtain ⟨c1, c2, c3⟩ := cells_rep (ofC_rep hz2 g.ρ g.I w)
      have hz00 := zeros_rep (len := y.toNat) hzn (by omega) ⟨c1, c2⟩
      have hxw := wrap64 h1 (by omega)
      have hyw := wrap64 (n := y) (by omega) h4
      rw [hzn]
      refine .fresh h o.dst n _ (w.alloc (.cells ((Array.range (y.toNat * n)).map (zv.cells[· % zv.cells.size]!)) e)) y.toNat _ e (0, 0) hd ?_ (by simp) rfl rfl rfl
        (fun x hx => RowKit.Below.heap_alloc w _ x hx) (heap_alloc_new w _) (by simp) (by intros; omega) (by simp; omega)
        (fun x hx => by rw [(List.mem_replicate.1 hx).2]; exact ⟨hzn, c3⟩) ?_
      · have hr0 : ∀ f : Nat → Value, (Array.range 0).map f = #[] := fun f => by simp [Array.range]
        have hmm : (m : Int) * y ≤ 140737488355328 := by rw [Int.mul_comm]; exact h3
        have b1 : (decide (y < 0) || decide ((i.bytes : Int) * y > 2 ^ 48)) = false := by
          simp only [Bool.or_eq_false_iff, decide_eq_false_iff_not, i2]; omega
        have b2 : ((decide (y < 0) || decide ((i.bytes : Int) * y > 2 ^ 48)) || decide (x < 0) || decide (x > y)) = false := by
          rw [b1]; simp only [Bool.false_or, Bool.or_eq_false_iff, decide_eq_false_iff_not]; omega
        by_cases h0 : y.toNat * n = 0
        · simp only [execOp, hop, Instr.makeSlice, Sem.run_bind, run_und hu, Result.andThen_ok, hle, hce, run_asI, Sem.run_pure, run_typeInfo hi, hxw, hyw]
          simp only [b2, Bool.false_eq_true, if_false, run_askRoom, Sem.run_bind, Result.andThen_ok, run_sz hn, h0, if_true, Sem.run_pure, hr0, newRow, run_newObj_alloc, List.length_replicate]
        · simp only [execOp, hop, Instr.makeSlice, Sem.run_bind, run_und hu, Result.andThen_ok, hle, hce, run_asI, Sem.run_pure, run_typeInfo hi, hxw, hyw]
          simp only [b2, Bool.false_eq_true, if_false, run_askRoom, Sem.run_bind, Result.andThen_ok, run_sz hn, h0, hz1, Sem.run_pure, newRow, run_newObj_alloc, List.length_replicate]
      · intro j x' k c v hx hc hv
        refine rep_row (n := n) (xs := List.replicate y.toNat z) (fun x hx => by rw [(List.mem_replicate.1 hx).2]; exact hzn) hz00 j x' k c v ?_ hc hv
        rw [List.getElem?_replicate] at hx ⊢
        split at hx
        · rw [if_pos (by omega)]; exact hx
        · cases hx
    · cases hF
  · cases hF

end
end Go.Px

/- What one operation does: append. -/
namespace Go.Px
section
variable {E : Env} {g : Gh} {oT : Nat → Option Nat} {st st' : St} {a : Act} {w : World} {o : Oper} {gd : Option (Nat × Bool)}

theorem run_app_grow {P : Program} (w : World) {ts : Array TypeId} (ty : TypeId) {t0 t1 e : TypeId} {d1 : TypeDesc} {i : TypeInfo} {z : Value} (h0 : ts[0]? = some t0) (h1 : ts[1]? = some t1)
    (ht : P.underlying t0 = some (.slice e)) (hd : P.underlying t1 = some d1) (hd1 : ∀ k, d1 ≠ .int k) (hi : P.info? e = some i) (hz : i.zero = some z)
    {base : Option Addr} {sLen sCap n : Nat} {x : Value} {olds news : Array Value}
    (hlen : (Builtin.lenOf x).run P w = .ok n w) (hold : (Builtin.firstCells i.size sLen (.slice base sLen sCap)).run P w.drew = .ok olds w.drew)
    (hnew : (Builtin.firstCells i.size n x).run P w.drew = .ok news w.drew)
    (hg : sCap < sLen + n) (hb : i.bytes ≠ 0) (hfit : (sLen + n) * i.bytes ≤ 140737488355328) :
    (Builtin.append_ ts ty #[.slice base sLen sCap, x]).run P w =
      .ok (.slice (some ⟨w.heap.size, 0, none⟩) (sLen + n) (grownCap w (sLen + n) sCap e))
        (w.drew.alloc (.cells (olds ++ news ++ Builtin.zeroCells z.cells (grownCap w (sLen + n) sCap e - (sLen + n))) e)) := by
  have hn : ¬ (sLen + n ≤ sCap) := by omega
  have hle : sLen + n ≤ (sLen + n) * i.bytes := Nat.le_mul_of_pos_right _ (by omega)
  have h63' : ¬ (9223372036854775807 < ((sLen : Int) + (n : Int))) := by omega
  have hfit' := growslice_fits hg hfit
  have h48' : ¬ (281474976710656 < Builtin.nextslicecap (sLen + n) sCap * i.bytes) := by omega
  have hdd : (match d1 with | .int _ => true | _ => false) = false := by
    cases d1 <;> first | rfl | exact absurd rfl (hd1 _)
  simp [Builtin.append_, h0, h1, run_underlying ht, run_underlying hd, sizeOf, typeInfo, zeroValue, hi, hz, hlen, hn, h63', h48', Question.forced, hold, hnew, newRow, grownCap]

theorem run_app_room {P : Program} (w w' : World) {ts : Array TypeId} (ty : TypeId) {t0 t1 e : TypeId} {d1 : TypeDesc} {i : TypeInfo} (h0 : ts[0]? = some t0) (h1 : ts[1]? = some t1)
    (ht : P.underlying t0 = some (.slice e)) (hd : P.underlying t1 = some d1) (hd1 : ∀ k, d1 ≠ .int k) (hi : P.info? e = some i)
    {b off sLen sCap n : Nat} {x : Value} {news : Array Value}
    (hlen : (Builtin.lenOf x).run P w = .ok n w) 
    (hnew : (Builtin.firstCells i.size n x).run P w = .ok news w)
    (hg : sLen + n ≤ sCap) (hst : (storeCells ⟨b, off + sLen * i.size, none⟩ news.toList).run P w = .ok () w') :
    (Builtin.append_ ts ty #[.slice (some ⟨b, off, none⟩) sLen sCap, x]).run P w = .ok (.slice (some ⟨b, off, none⟩) (sLen + n) sCap) w' := by
  have hdd : (match d1 with | .int _ => true | _ => false) = false := by
    cases d1 <;> first | rfl | exact absurd rfl (hd1 _)
  have hadd : (⟨b, off, none⟩ : Addr).add (sLen * i.size) = ⟨b, off + sLen * i.size, none⟩ := by unfold Addr.add; split <;> simp_all
  simp [Builtin.append_, h0, h1, run_underlying ht, run_underlying hd, sizeOf, typeInfo, hi, hlen, hg, hnew, hadd, hst]

/-- The cells of a slice's elements, as they are read. -/
theorem cells_of_sl {P : Program} {w : World} {ρ : List Nat} {I : Nat → Nat → Prop} {n : Nat} {xs : List DV} {v : Value} (h : RepD ρ I w (.sl n xs) v) :
    ∃ b off cap vs, v = .slice (some ⟨b, off, none⟩) xs.length cap ∧ xs.length ≤ cap ∧ RepL ρ I w (flat xs) vs ∧ vs.size = xs.length * n ∧ (∀ k, k < xs.length * n → w.cell? ⟨b, off + k, none⟩ = vs[k]? ∧ I b (off + k)) ∧
      (∀ x ∈ xs, x.cells.length = n ∧ ∀ c ∈ x.cells, c.one = true) ∧
      ∀ w' : World, (∀ k, w'.cell? ⟨b, k, none⟩ = w.cell? ⟨b, k, none⟩) → (Builtin.firstCells n xs.length v).run P w' = .ok vs w' := by
  cases h with | @sl _ _ b off cap vs hc hs hm hh =>
  have hfl := flat_len (fun x hx => (hs x hx).1)
  refine ⟨b, off, cap, ((List.range (xs.length * n)).map vs).toArray, rfl, hc, ⟨by simp [hfl], ?_⟩, by simp, ?_, hs, ?_⟩
  · intro j c v hj hv
    simp only [List.getElem?_toArray, List.getElem?_map, Option.map_eq_some_iff] at hv
    obtain ⟨j', hj', rfl⟩ := hv
    have hlt := (List.getElem?_eq_some_iff.1 hj').1
    simp only [List.length_range] at hlt
    rw [List.getElem?_range hlt] at hj'
    cases hj'
    have hn : 0 < n := by
      rcases Nat.eq_zero_or_pos n with h | h
      · subst h; simp at hlt
      · exact h
    have e : j = j / n * n + j % n := by rw [Nat.mul_comm]; exact (Nat.div_add_mod j n).symm
    have hk := Nat.mod_lt j hn
    rw [e, flat_get (fun x hx => (hs x hx).1) _ _ hk] at hj
    simp only [Option.bind_eq_some_iff] at hj
    obtain ⟨x, hx, hcx⟩ := hj
    rw [e]
    exact hh _ x _ c hx hcx
  · intro k hk
    exact ⟨by rw [(hm k hk).1]; simp [hk], (hm k hk).2⟩
  · intro w' hw
    have := run_loadCells_list (P := P) w' ⟨b, off, none⟩ ((List.range (xs.length * n)).map vs) (by
      intro j v hv
      simp only [List.getElem?_map, Option.map_eq_some_iff] at hv
      obtain ⟨j', hj', rfl⟩ := hv
      have hlt := (List.getElem?_eq_some_iff.1 hj').1
      simp only [List.length_range] at hlt
      rw [List.getElem?_range hlt] at hj'
      cases hj'
      rw [addr_add, hw]; exact (hm j hlt).1)
    simpa [Builtin.firstCells] using this

/-- What is appended: its cells. -/
theorem cells_of_list {P : Program} {w : World} {ρ : List Nat} {I : Nat → Nat → Prop} {fs : List (List (Nat × Nat))} {n : Nat} {v : AV} {x : Value} (h : RepA ρ I w fs v x) {zy : Option Nat} {ys : List DV}
    (hl : listOf v = some (zy, ys)) (hz : zy = some n ∨ zy = none) :
    (Builtin.lenOf x).run P w = .ok ys.length w ∧ (∀ y ∈ ys, y.cells.length = n ∧ ∀ c ∈ y.cells, c.one = true) ∧
    ∃ vs : Array Value, RepL ρ I w (flat ys) vs ∧ vs.size = ys.length * n ∧ ∀ w' : World, (∀ b k, w'.cell? ⟨b, k, none⟩ = w.cell? ⟨b, k, none⟩) → (Builtin.firstCells n ys.length x).run P w' = .ok vs w' := by
  unfold listOf at hl
  split at hl
  · rename_i sz xs
    simp only [Option.some.injEq, Prod.mk.injEq] at hl
    obtain ⟨rfl, rfl⟩ := hl
    have hn : sz = n := by simpa using hz
    subst hn
    obtain ⟨b, off, cap, vs, rfl, h1, h2, h3, h4, h5, h6⟩ := cells_of_sl (P := P) h.d_inv
    exact ⟨rfl, h5, vs, h2, h3, fun w' hw => h6 w' (fun k => hw b k)⟩
  · simp only [Option.some.injEq, Prod.mk.injEq] at hl
    obtain ⟨rfl, rfl⟩ := hl
    have h := h.d_inv
    cases h
    exact ⟨rfl, by simp, #[], ⟨rfl, by simp [flat]⟩, by simp, fun w' _ => rfl⟩
  · rename_i b
    simp only [Option.some.injEq, Prod.mk.injEq] at hl
    obtain ⟨rfl, rfl⟩ := hl
    have hn : 1 = n := by simpa using hz
    subst hn
    have h := h.d_inv
    cases h
    have hsz : b.data.toList.length = b.size := by simp only [Array.length_toList]; rfl
    have hle : (encB b.data.toList).length = b.size := by rw [encB, List.length_map]; exact hsz
    have hs : ∀ y ∈ encB b.data.toList, y.cells.length = 1 ∧ ∀ c ∈ y.cells, c.one = true := by
      intro x hx
      simp only [encB, List.mem_map] at hx
      obtain ⟨y, _, rfl⟩ := hx
      exact ⟨rfl, by simp [DV.cells, DV.one]⟩
    have hfl : ∀ l : List UInt8, flat (encB l) = encB l := by
      intro l
      induction l with
      | nil => rfl
      | cons y l ih => simp only [flat, encB, List.map_cons, List.flatMap_cons] at ih ⊢; rw [ih]; rfl
    have hfl := hfl b.data.toList
    refine ⟨by rw [hle]; rfl, hs, b.data.map fun x => .int .u8 x.toNat, ⟨by rw [hfl, hle]; simp, ?_⟩, by rw [hle]; simp, ?_⟩
    · intro j c v hc hv
      rw [hfl, encB_get] at hc
      simp only [Option.map_eq_some_iff] at hc
      obtain ⟨y, hy, rfl⟩ := hc
      simp only [Array.getElem?_map, Option.map_eq_some_iff] at hv
      obtain ⟨y', hy', rfl⟩ := hv
      have : b.data.toList[j]? = some y' := by simpa using hy'
      rw [hy] at this; cases this
      exact .i _ _
    · intro w' _
      rw [hle]
      simp [Builtin.firstCells]
  · cases hl

theorem RepL.append {ρ : List Nat} {I : Nat → Nat → Prop} {z y : List DV} {zs ys : Array Value} (h : RepL ρ I w z zs) (h' : RepL ρ I w y ys) : RepL ρ I w (z ++ y) (zs ++ ys) := by
  refine ⟨by simp [h.1, h'.1], ?_⟩
  intro j c v hc hv
  rw [List.getElem?_append] at hc
  rw [Array.getElem?_append, h.1] at hv
  split at hc
  · rename_i hj; rw [if_pos hj] at hv; exact h.2 j c v hc hv
  · rename_i hj; rw [if_neg hj] at hv; exact h'.2 _ c v hc hv

end
end Go.Px

/- What one operation does: append, the slice and who owns it. -/
namespace Go.Px
section
variable {E : Env} {g : Gh} {oT : Nat → Option Nat} {st st' : St} {a : Act} {w : World} {o : Oper} {gd : Option (Nat × Bool)}

theorem setCells_spec (b : Nat) : ∀ (vs : List Value) (o : Nat) (w : World) (arr : Array Value) (t : TypeId) (fz : Nat × Nat), w.heap[b]? = some (.cells arr t fz) → o + vs.length ≤ arr.size →
    ∃ arr', (w.setCells b o vs).heap[b]? = some (.cells arr' t fz) ∧ arr'.size = arr.size ∧ (∀ j, arr'[j]? = if o ≤ j ∧ j < o + vs.length then vs[j - o]? else arr[j]?) ∧
      (∀ x, x ≠ b → (w.setCells b o vs).heap[x]? = w.heap[x]?) ∧ (w.setCells b o vs).heap.size = w.heap.size ∧ (w.setCells b o vs).os = w.os ∧ (w.setCells b o vs).tape = w.tape ∧ (w.setCells b o vs).output = w.output := by
  intro vs
  induction vs with
  | nil =>
    intro o w arr t fz h _
    refine ⟨arr, h, rfl, fun j => ?_, fun _ _ => rfl, rfl, rfl, rfl, rfl⟩
    have : ¬ (o ≤ j ∧ j < o + ([] : List Value).length) := by simp
    rw [if_neg this]
  | cons v vs ih =>
    intro o w arr t fz h hl
    simp only [List.length_cons] at hl
    have hb := (Array.getElem?_eq_some_iff.1 h).1
    have h1 : (w.setCell ⟨b, o, none⟩ v).heap[b]? = some (.cells (arr.setIfInBounds o v) t fz) := by
      simp only [World.setCell, Array.getElem?_modify, if_true, h]; rfl
    obtain ⟨arr', a1, a2, a3, a4, a5, a6, a7, a8⟩ := ih (o + 1) (w.setCell ⟨b, o, none⟩ v) _ t fz h1 (by simp; omega)
    refine ⟨arr', a1, by rw [a2]; simp, fun j => ?_, fun x hx => ?_, by rw [World.setCells, a5]; simp [World.setCell], a6, a7, a8⟩
    · rw [a3]
      by_cases hj : j = o
      · subst hj
        have c1 : ¬ (j + 1 ≤ j ∧ j < j + 1 + vs.length) := by omega
        have c2 : j ≤ j ∧ j < j + (v :: vs).length := by simp
        rw [if_neg c1, if_pos c2, Array.getElem?_setIfInBounds_self_of_lt (by omega)]; simp
      · by_cases hc : o ≤ j ∧ j < o + (v :: vs).length
        · have c1 : o + 1 ≤ j ∧ j < o + 1 + vs.length := by simp at hc; omega
          rw [if_pos c1, if_pos hc]
          have : j - o = j - (o + 1) + 1 := by omega
          rw [this, List.getElem?_cons_succ]
        · have c1 : ¬ (o + 1 ≤ j ∧ j < o + 1 + vs.length) := by simp at hc ⊢; omega
          rw [if_neg c1, if_neg hc, Array.getElem?_setIfInBounds_ne (by omega)]
    · rw [World.setCells, a4 x hx]
      simp only [World.setCell, Array.getElem?_modify, if_neg (fun e : b = x => hx e.symm)]

theorem one_rep {ρ : List Nat} {I : Nat → Nat → Prop} {w : World} {c : DV} {v : Value} (h : RepD ρ I w c v) (ho : c.one = true) : v.oneCell' = true := by
  cases h <;> first | rfl | cases ho

theorem app_core {sem : Sem Next} {g0 : Gh} {oT0 : Nat → Option Nat} {h0 : Option (List BObj)} (hm0 : Stp g0 oT0 h0 w g oT st.hp w) (h : RS E g oT st a w) (d : Option Nat) (hd : ∀ t, d = some t → t < a.tmps.size)
    {ts : Array TypeId} {ty t0 t1 e : TypeId} {d1 : TypeDesc} {i : TypeInfo} {z : Value} {n : Nat} (ht0 : ts[0]? = some t0) (ht1 : ts[1]? = some t1)
    (ht : E.P.underlying t0 = some (.slice e)) (hdt : E.P.underlying t1 = some d1) (hd1 : ∀ k, d1 ≠ .int k) (hi : E.P.info? e = some i) (hz : i.zero = some z) (hzs : z.cells.size = n) (hn : i.size = n) (hn0 : n ≠ 0) (hb : i.bytes ≠ 0)
    {xs ys : List DV} {zy : Option Nat} {v y : Value} {yv : AV} {ob : Option Nat}
    (hx : (v = .slice none 0 0 ∧ xs = [] ∧ ys ≠ []) ∨ (RepD g.ρ g.I w (.sl n xs) v ∧ OwnC w g.I n xs v ob))
    (hob : ∀ b, ob = some b → b ∉ blks g st.hp ∧ (∀ y i, g.owM y i ≠ some b) ∧ E.w0.heap.size ≤ b ∧ b < w.heap.size ∧ ∀ t, oT t ≠ some b)
    (hob0 : ∀ b, ob = some b → Mine g0 oT0 h0 b)
    (hy : RepA g.ρ g.I w g.fs yv y) (hl : listOf yv = some (zy, ys)) (hzy : zy = some n ∨ zy = none)
    (hfit : (xs.length + ys.length) * i.bytes ≤ 140737488355328)
    (hrun : ∀ v' w', (Builtin.append_ ts ty #[v, y]).run E.P w = .ok v' w' → sem.run E.P w = .ok (.value v') w') :
    Res E sem g0 oT0 h0 a w d (st.put d (.os n (xs ++ ys))) := by
  subst hn
  obtain ⟨hlen, hys, news, hrn, hsn, hfn⟩ := cells_of_list (P := E.P) hy hl hzy
  -- a new row
  have grow : ∀ (base : Option Addr) (cap : Nat) (olds : Array Value), v = .slice base xs.length cap → (∀ x ∈ xs, x.cells.length = i.size ∧ ∀ c ∈ x.cells, c.one = true) → RepL g.ρ g.I w (flat xs) olds → olds.size = xs.length * i.size →
      (Builtin.firstCells i.size xs.length v).run E.P w.drew = .ok olds w.drew → cap < xs.length + ys.length → Res E sem g0 oT0 h0 a w d (st.put d (.os i.size (xs ++ ys))) := by
    intro base cap olds hv hxs hro hso hfo hlt
    subst hv
    have hr := run_app_grow (P := E.P) w ty ht0 ht1 ht hdt hd1 hi hz hlen hfo (hfn _ fun b k => rfl) hlt hb hfit
    have hge := grownCap_ge w (xs.length + ys.length) cap e
    have hall : ∀ x ∈ xs ++ ys, x.cells.length = i.size ∧ ∀ c ∈ x.cells, c.one = true := fun x hx => (List.mem_append.1 hx).elim (hxs x) (hys x)
    have hrl : RepL g.ρ g.I w (flat (xs ++ ys)) (olds ++ news) := by rw [flat_app]; exact hro.append hrn
    refine .pre hm0 (.fresh h d i.size (xs ++ ys) (w.drew.alloc (.cells (olds ++ news ++ Builtin.zeroCells z.cells (grownCap w (xs.length + ys.length) cap e - (xs.length + ys.length))) e)) (grownCap w (xs.length + ys.length) cap e) _ e (0, 0) hd (by rw [List.length_append]; exact hrun _ _ hr) (by show (w.drew.heap.push _).size = _; rw [Array.size_push]; rfl) rfl rfl rfl
      (fun x hx => RowKit.Below.heap_alloc w.drew _ x hx) (heap_alloc_new w.drew _) ?_ (by intros; omega) (by simp; exact hge) hall ?_)
    · rw [Array.size_append, Array.size_append, size_zeroCells, hzs, hso, hsn, ← Nat.add_mul, ← Nat.add_mul]
      congr 1; omega
    · intro j x k c v hx hc hv
      refine rep_row (fun x hx => (hall x hx).1) hrl j x k c v hx hc ?_
      have hjl := (List.getElem?_eq_some_iff.1 hx).1
      have hkl := (List.getElem?_eq_some_iff.1 hc).1
      rw [(hall x (List.mem_of_getElem? hx)).1] at hkl
      have : (j + 1) * i.size ≤ (xs ++ ys).length * i.size := Nat.mul_le_mul_right _ (by omega)
      rw [Nat.succ_mul, List.length_append, Nat.add_mul] at this
      rw [Array.getElem?_append_left (by rw [Array.size_append, hso, hsn]; omega)] at hv
      exact hv
  rcases hx with ⟨rfl, rfl, hne⟩ | ⟨hrx, hown⟩
  · exact grow none 0 #[] rfl (by simp) ⟨rfl, by simp [flat]⟩ (by simp) rfl (by have := List.length_pos_iff.2 hne; simpa using this)
  · obtain ⟨b, off, cap, vs, rfl, hcap, hrepo, hso, hcells, hxs, hfo⟩ := cells_of_sl (P := E.P) hrx
    by_cases hroom : xs.length + ys.length ≤ cap
    · obtain ⟨b', off', cap', e', hc⟩ := hown
      cases e'
      have hll : (Builtin.firstCells i.size ys.length y).run E.P w = .ok news w := hfn w fun _ _ => rfl
      cases hye : ys with
      | nil =>
        subst hye
        have hn0 : news = #[] := Array.eq_empty_of_size_eq_zero (by rw [hsn]; simp)
        have hr := run_app_room (P := E.P) w w ty ht0 ht1 ht hdt hd1 hi hlen hll hroom (b := b) (off := off) (by rw [hn0]; rfl)
        rw [List.append_nil]
        refine ⟨_, w, g, _, .inl (hrun _ _ hr), h.put d (.os i.size xs) _ ob hd (.os hrx) (fun s hs => absurd hs not_hasLoc_os) ?_ ?_, ?_⟩
        · intro sz xs' e; cases e; exact ⟨b, off, cap, rfl, hc⟩
        · intro b hb; obtain ⟨b1, b2, b3, b4, b5⟩ := hob b hb; exact ⟨b1, b2, b3, b4, fun t _ => b5 t⟩
        · have e1 : (st.put d (.os i.size xs)).hp = st.hp := by cases d <;> rfl
          rw [e1]
          refine ⟨hm0.size, hm0.os, hm0.tape, hm0.output, hm0.I, hm0.Ic, hm0.far, fun b hb => ?_, hm0.ρ, hm0.fs, hm0.hs, hm0.ρn⟩
          rcases mine_put hb with hb | hb
          · exact hm0.mine b hb
          · exact .inl (hob0 b hb)
      | cons y0 yl =>
        have hpos : 0 < ys.length := by rw [hye]; simp
        rw [← hye]
        obtain ⟨hobb, ⟨arr, t, fz, k1, k2, k3⟩, k4⟩ := hc (by omega)
        obtain ⟨o1, o2, o3, o4, o5⟩ := hob b hobb
        have hmul : (xs.length + ys.length) * i.size ≤ cap * i.size := Nat.mul_le_mul_right _ hroom
        rw [Nat.add_mul] at hmul
        have hnl : news.toList.length = ys.length * i.size := by simpa using hsn
        obtain ⟨arr', s1, s2, s3, s4, s5, s6, s7, s8⟩ := setCells_spec b news.toList (off + xs.length * i.size) w arr t fz k1 (by rw [hnl]; omega)
        have hone : ∀ u ∈ news.toList, u.oneCell' = true := by
          intro u hu
          obtain ⟨j, hj⟩ := List.getElem?_of_mem hu
          have hjl := (List.getElem?_eq_some_iff.1 hj).1
          have hfl : j < (flat ys).length := by rw [flat_len fun x hx => (hys x hx).1]; omega
          have hg := List.getElem?_eq_getElem hfl
          exact one_rep (hrn.2 j _ u hg (by simpa using hj)) (flat_one (fun x hx => (hys x hx).2) _ (List.mem_of_getElem? hg))
        have hst := run_storeCells_cells (P := E.P) b (off + xs.length * i.size) news.toList 0 w
          (by intro j hj; simp only [World.cell?, k1, Nat.add_zero, Option.isSome_none, Bool.false_eq_true, if_false]; rw [Array.getElem?_eq_getElem (by omega)]; rfl)
          (by intro j hj; simp only [World.frozen?, k1, Nat.add_zero]; have := k3 (off + xs.length * i.size + j) (by omega); simpa using this) hone
        rw [Nat.add_zero] at hst
        have hr := run_app_room (P := E.P) w _ ty ht0 ht1 ht hdt hd1 hi hlen hll hroom (b := b) (off := off) hst
        generalize hw' : w.setCells b (off + xs.length * i.size) news.toList = w' at hr s1 s4 s5 s6 s7 s8
        have hIc : ∀ x k, g.I x k → w'.cell? ⟨x, k, none⟩ = w.cell? ⟨x, k, none⟩ := by
          intro x k hk
          by_cases hxb : x = b
          · subst hxb
            have hlt : k < off + xs.length * i.size := by
              rcases Nat.lt_or_ge k (off + xs.length * i.size) with h | h
              · exact h
              · exact absurd hk (k4 k h)
            simp only [World.cell?, s1, k1, s3, Option.isSome_none, Bool.false_eq_true, if_false]
            rw [if_neg (by omega)]
          · exact cell?_of (s4 x hxb) k
        have hg := h.grow w' (fun x k => g.I x k ∨ (x = b ∧ off + xs.length * i.size ≤ k ∧ k < off + (xs.length + ys.length) * i.size)) (by omega) s6 s7 s8
          (fun x hx => s4 x (by omega))
          (fun x hx => by
            have hxb : x ≠ b := fun e => o1 (e ▸ hx)
            exact ⟨s4 x hxb, fun k hk => hk.elim ((h.m.new x hx).2.2 k) (fun e => hxb e.1)⟩)
          (fun x j c hc => by
            have hcb : c ≠ b := fun e => o2 x j (e ▸ hc)
            exact ⟨s4 c hcb, fun k hk => hk.elim id (fun e => absurd e.1 hcb)⟩)
          (fun u c hc => by
            have hcb : c ≠ b := fun e => o5 u (e ▸ hc)
            exact ⟨s4 c hcb, fun k hk => hk.elim id (fun e => absurd e.1 hcb)⟩)
          (fun _ _ => .inl) hIc (fun x k hk => hk.elim (fun h' => by have := h.m.lt x k h'; omega) (fun e => by omega))
        have hrl : RepL g.ρ g.I w (flat (xs ++ ys)) (vs ++ news) := by rw [flat_app]; exact hrepo.append hrn
        have hall : ∀ x ∈ xs ++ ys, x.cells.length = i.size ∧ ∀ c ∈ x.cells, c.one = true := fun x hx => (List.mem_append.1 hx).elim (hxs x) (hys x)
        have hrep : RepD g.ρ (fun x k => g.I x k ∨ (x = b ∧ off + xs.length * i.size ≤ k ∧ k < off + (xs.length + ys.length) * i.size)) w' (.sl i.size (xs ++ ys)) (.slice (some ⟨b, off, none⟩) (xs.length + ys.length) cap) := by
          rw [← List.length_append]
          refine .sl (fun k => (vs ++ news).getD k undef) (by simpa using hroom) hall ?_ ?_
          · intro k hk
            rw [List.length_append, Nat.add_mul] at hk
            have hin : k < (vs ++ news).size := by rw [Array.size_append, hso, hsn]; exact hk
            rw [Array.getD_eq_getD_getElem?, Array.getElem?_eq_getElem hin, Option.getD_some, ← Array.getElem?_eq_getElem hin]
            by_cases hkl : k < xs.length * i.size
            · refine ⟨?_, .inl (hcells k hkl).2⟩
              rw [hIc b _ (hcells k hkl).2, (hcells k hkl).1, Array.getElem?_append_left (by omega)]
            · refine ⟨?_, .inr ⟨rfl, by omega, by first | (rw [Nat.add_mul]; omega) | (rw [List.length_append, Nat.add_mul]; omega)⟩⟩
              simp only [World.cell?, s1, s3, Option.isSome_none, Bool.false_eq_true, if_false]
              rw [if_pos (by omega), Array.getElem?_append_right (by omega), hso]
              have : off + k - (off + xs.length * i.size) = k - xs.length * i.size := by omega
              rw [this]; simp
          · intro j x k c hx hc
            have hjl := (List.getElem?_eq_some_iff.1 hx).1
            have hkl := (List.getElem?_eq_some_iff.1 hc).1
            rw [(hall x (List.mem_of_getElem? hx)).1] at hkl
            have hle : (j + 1) * i.size ≤ (xs ++ ys).length * i.size := Nat.mul_le_mul_right _ (by omega)
            rw [Nat.succ_mul, List.length_append, Nat.add_mul] at hle
            have hin : j * i.size + k < (vs ++ news).size := by rw [Array.size_append, hso, hsn]; omega
            rw [Array.getD_eq_getD_getElem?, Array.getElem?_eq_getElem hin]
            exact (rep_row (fun x hx => (hall x hx).1) hrl j x k c _ hx hc (Array.getElem?_eq_getElem hin)).mono (List.prefix_refl _) (fun _ _ => .inl) hIc
        refine ⟨_, w', _, _, .inl (hrun _ _ hr), hg.put d (.os i.size (xs ++ ys)) _ (some b) hd (.os hrep) (fun s hs => absurd hs not_hasLoc_os) ?_ ?_, ?_⟩
        · intro sz xs' e
          cases e
          refine ⟨b, off, cap, by rw [List.length_append], fun _ => ⟨rfl, ⟨arr', t, fz, s1, by omega, fun k hk => k3 k (by omega)⟩, fun k hk hh => ?_⟩⟩
          rw [List.length_append, Nat.add_mul] at hk
          rcases hh with hh | ⟨_, hh, hh'⟩
          · exact k4 k (by omega) hh
          · rw [Nat.add_mul] at hh'; omega
        · intro c hc
          cases hc
          exact ⟨o1, o2, o3, by omega, fun t _ => o5 t⟩
        · have e1 : (st.put d (.os i.size (xs ++ ys))).hp = st.hp := by cases d <;> rfl
          rw [e1]
          refine ⟨by omega, s6, s7, s8, fun x k hk => .inl (hm0.I x k hk), fun x k hk => hIc x k (hm0.I x k hk), fun x hx hnm => ?_, fun x hx => ?_, hm0.ρ, hm0.fs, hm0.hs, hm0.ρn⟩
          · have hxb : x ≠ b := fun e => hnm (e ▸ hob0 b hobb)
            exact ⟨s4 x hxb, fun k hk => hk.elim ((hm0.far x hx hnm).2 k) (fun e => absurd e.1 hxb)⟩
          · rcases mine_put hx with hx | hx
            · exact hm0.mine x hx
            · cases hx; exact .inl (hob0 b hobb)
    · exact grow _ cap vs rfl hxs hrepo hso (hfo _ fun _ => rfl) (by omega)

end
end Go.Px

/- What one operation does: a place's content turns. -/
namespace Go.Px
section
variable {E : Env} {g : Gh} {oT : Nat → Option Nat} {st st' : St} {a : Act} {w : World} {o : Oper} {gd : Option (Nat × Bool)}

def St.setP (st : St) (p : Pl) (o : BObj) (cp : List (Nat × OL)) : St :=
  match p with
  | .fr r => { st.setFrs (refSet st.frs r o) with cp := cp }
  | .ob i => { st with hp := hSet st.hp i o, cp := cp }

theorem setP_spec (st : St) (p : Pl) (o : BObj) (cp : List (Nat × OL)) : (st.setP p o cp).frs = (plSet st.frs st.hp p o).1 ∧ (st.setP p o cp).hp = (plSet st.frs st.hp p o).2 ∧ (st.setP p o cp).tm = st.tm ∧ (st.setP p o cp).cp = cp ∧
    (∀ s, frGet (st.setP p o cp).bx s = if p = .fr (.loc s) then (frGet st.bx s).map (fun _ => o) else frGet st.bx s) := by
  cases p with
  | fr r =>
    have hne : ∃ b u, refSet st.frs r o = b :: u := by
      cases h : refSet st.frs r o with
      | nil => have := refSet_length st.frs r o; rw [h] at this; simp [St.frs] at this
      | cons b u => exact ⟨b, u, rfl⟩
    obtain ⟨b, u, hb⟩ := hne
    have e : st.setP (.fr r) o cp = { { st with bx := b, up := u } with cp := cp } := by simp only [St.setP, St.setFrs, hb]
    refine ⟨by rw [e]; simp [St.frs, plSet, ← hb], by rw [e]; rfl, by rw [e], by rw [e], fun s => ?_⟩
    rw [e]
    show frGet b s = _
    have h1 : refGet (refSet st.frs r o) (.loc s) = frGet b s := by rw [hb]; rfl
    rw [← h1, refGet_refSet]
    simp only [Pl.fr.injEq]
    by_cases h : r = .loc s
    · subst h; simp [St.frs, refGet]
    · simp [h, St.frs, refGet]
  | ob i => exact ⟨rfl, rfl, rfl, rfl, fun s => by simp [St.setP]⟩

/-- A place's content turns; the world with it. -/
theorem RS.upd (h : RS E g oT st a w) {p : Pl} {o o' : BObj} {b : Nat} (hp : plGet st.frs st.hp p = some o) (hb : plB g p = some b) (w' : World) (ow : Nat → Nat → Option Nat) (cp : List (Nat × OL))
    (hsz : w'.heap.size = w.heap.size) (hoth : ∀ x, x ≠ b → w'.heap[x]? = w.heap[x]?) (hos : w'.os = w.os) (hta : w'.tape = w.tape) (hou : w'.output = w.output)
    (how : ∀ x i, x ≠ b → ow x i = g.owM x i)
    (how' : ∀ i c, ow b i = some c → c ∉ blks g st.hp ∧ E.w0.heap.size ≤ c ∧ c < w.heap.size ∧ (∀ x j, x ≠ b → g.owM x j ≠ some c) ∧ ∀ t, oT t ≠ some c)
    (hinj : ∀ i j c, ow b i = some c → ow b j = some c → i = j)
    (hok : BoxOk w' { g with owM := ow } (plFs g.fs p) b o')
    (hcp : ∀ t l, (t, l) ∈ cp → (t, l) ∈ st.cp ∧ (w'.heap[b]? = w.heap[b]? ∨ (∃ n, l = .t n) ∨ ∀ k, w.cell? ⟨b, k, none⟩ = none))
    (hcl : ∀ s, p = .fr (.loc s) → ∀ cs, o' = .cells cs → ∀ c ∈ cs, ∀ s', HasLoc c s' → frGet st.bx s' ≠ none) :
    RS E { g with owM := ow } oT (st.setP p o' cp) a w' := by
  obtain ⟨e1, e2, e3, e4, e5⟩ := setP_spec st p o' cp
  have hmem := plB_mem hp hb
  have hI : ∀ c k, g.I c k → w'.cell? ⟨c, k, none⟩ = w.cell? ⟨c, k, none⟩ := fun c k hc => cell?_of (hoth c fun e => (h.m.new b hmem).2.2 k (e ▸ hc)) k
  have hne : ∀ s, frGet (st.setP p o' cp).bx s = none ↔ frGet st.bx s = none := by
    intro s; rw [e5]; split <;> simp
  refine ⟨?_, ?_, ?_, ?_, h.oi, ?_, ?_, ?_, fun t r off ht s hs => by rw [Ne, hne]; rw [e4] at ht; exact h.clC t r off (hcp t _ ht).1 s hs⟩
  · rw [e1, e2]
    exact h.m.upd hp hb w' ow hsz hoth hos hta hou how (fun i c hc => by obtain ⟨a1, a2, a3, a4, _⟩ := how' i c hc; exact ⟨a1, a2, a3, a4⟩) hinj hok
  · intro t; rw [e3]; exact (h.tm t).mono (List.prefix_refl _) (fun _ _ x => x) hI (fun _ _ hr _ => hr)
  · intro t sz xs; rw [e3]; intro e
    exact (h.ot t sz xs e).mono fun c hc => ⟨hoth c (fun e => (h.on t c hc).1 (e ▸ hmem)), fun _ x => x⟩
  · intro t c hc
    obtain ⟨b1, b2, b3, b4⟩ := h.on t c hc
    refine ⟨by rw [e2]; show c ∉ blks { g with owM := ow } _; rw [show blks { g with owM := ow } (plSet st.frs st.hp p o').2 = blks g st.hp from blks_plSet g _ _ p o']; exact b1, fun x i hx => ?_, b3, by omega⟩
    by_cases hxb : x = b
    · subst hxb; exact (how' i c hx).2.2.2.2 t hc
    · exact b2 x i ((how x i hxb) ▸ hx)
  · intro t l hl
    rw [e4] at hl
    obtain ⟨h1, h2⟩ := hcp t l hl
    have hc := h.cp t l h1
    have key : ∀ c k v, w.cell? ⟨c, k, none⟩ = some v → (∀ n, l ≠ .t n) → w'.cell? ⟨c, k, none⟩ = some v := by
      intro c k v hv hn
      by_cases hcb : c = b
      · subst hcb
        rcases h2 with h2 | ⟨n, h2⟩ | h2
        · exact (cell?_of h2 k).trans hv
        · exact absurd h2 (hn n)
        · rw [h2 k] at hv; cases hv
      · exact (cell?_of (hoth c hcb) k).trans hv
    cases l with
    | t n => exact hc
    | c r off => obtain ⟨c, a1, a2⟩ := hc; exact ⟨c, a1, key c off _ a2 (by simp)⟩
    | o i off =>
      obtain ⟨a0, c, a1, a2⟩ := hc
      refine ⟨?_, c, a1, key c off _ a2 (by simp)⟩
      rw [e2]
      cases p with
      | fr r => exact a0
      | ob i => simp only [plSet, hSet]; cases hh : st.hp with
        | none => exact absurd hh a0
        | some os => simp
  · intro t s hs; rw [e3] at hs; rw [Ne, hne]; exact h.clT t s hs
  · intro s cs hs c hc s' hl
    rw [Ne, hne]
    rw [e5] at hs
    split at hs
    · rename_i hps
      simp only [Option.map_eq_some_iff] at hs
      obtain ⟨_, _, rfl⟩ := hs
      exact hcl s hps cs rfl c hc s' hl
    · exact h.clB s cs hs c hc s' hl

/-- Its step: blocks of mine alone. -/
theorem Stp.upd (hm : RelM E g st.frs st.hp w) {p : Pl} {o o' : BObj} {b : Nat} (hp : plGet st.frs st.hp p = some o) (hb : plB g p = some b) {w' : World} {ow : Nat → Nat → Option Nat} {cp : List (Nat × OL)}
    {g0 : Gh} {oT0 : Nat → Option Nat} {h0 : Option (List BObj)} (hm0 : Stp g0 oT0 h0 w g oT st.hp w)
    (hsz : w'.heap.size = w.heap.size) (hoth : ∀ x, x ≠ b → w'.heap[x]? = w.heap[x]?) (hos : w'.os = w.os) (hta : w'.tape = w.tape) (hou : w'.output = w.output)
    (how : ∀ x i c, ow x i = some c → Mine g0 oT0 h0 c) : Stp g0 oT0 h0 w { g with owM := ow } oT (st.setP p o' cp).hp w' := by
  obtain ⟨e1, e2, e3, e4, e5⟩ := setP_spec st p o' cp
  have hmem := plB_mem hp hb
  have hm0b : Mine g0 oT0 h0 b := by
    rcases hm0.mine b (.inl hmem) with h | h
    · exact h
    · have := (hm.new b hmem).2.1; omega
  have hI : ∀ c k, g.I c k → w'.cell? ⟨c, k, none⟩ = w.cell? ⟨c, k, none⟩ := fun c k hc => cell?_of (hoth c fun e => (hm.new b hmem).2.2 k (e ▸ hc)) k
  refine ⟨by omega, hos, hta, hou, hm0.I, fun x k hk => hI x k (hm0.I x k hk), fun x hx hn => ⟨hoth x fun e => hn (e ▸ hm0b), (hm0.far x hx hn).2⟩, fun x hx => ?_, hm0.ρ, hm0.fs, ?_, hm0.ρn⟩
  · rcases hx with hx | ⟨y, i, hx⟩ | hx
    · rw [e2] at hx
      rw [show blks { g with owM := ow } (plSet st.frs st.hp p o').2 = blks g st.hp from blks_plSet g _ _ p o'] at hx
      exact hm0.mine x (.inl hx)
    · exact .inl (how y i x hx)
    · exact hm0.mine x (.inr (.inr hx))
  · rw [← hm0.hs, e2]
    cases p with
    | fr r => rfl
    | ob i => simp [plSet, hSet]

end
end Go.Px

/- What one operation does: append, at last. -/
namespace Go.Px
section
variable {E : Env} {g : Gh} {oT : Nat → Option Nat} {st st' : St} {a : Act} {w : World} {o : Oper} {gd : Option (Nat × Bool)}

theorem setP_fr (st : St) (r : Ref) (o : BObj) : st.setP (.fr r) o st.cp = st.setFrs (refSet st.frs r o) := by
  simp only [St.setP, St.setFrs]; split <;> rfl

theorem setP_ob (st : St) (i : Nat) (o : BObj) : st.setP (.ob i) o st.cp = { st with hp := hSet st.hp i o } := rfl

def owOut (g : Gh) (b off : Nat) : Nat → Nat → Option Nat := fun x i => if x = b ∧ i = off then none else g.owM x i

/-- A cell gives its slice's tail away. -/
theorem RS.loseC (h : RS E g oT st a w) {p : Pl} {cs : List AV} {off z : Nat} {xs : List DV} {b : Nat} (hp : plGet st.frs st.hp p = some (.cells cs)) (hc : cellAt cs off = some (.os z xs)) (hb : plB g p = some b) (hok : BoxOk w g (plFs g.fs p) b (.cells cs)) :
    RS E { g with owM := owOut g b off } oT (st.setP p (.cells (setAt cs off (.d (.sl z xs)))) st.cp) a w := by
  rw [cellAt_eq] at hc
  refine h.upd hp hb w _ st.cp rfl (fun _ _ => rfl) rfl rfl rfl (fun x i hx => by simp [owOut, hx]) ?_ ?_ ?_ (fun t l hl => ⟨hl, .inl rfl⟩) ?_
  · intro i c hi
    simp only [owOut] at hi
    split at hi
    · cases hi
    · rename_i hne
      obtain ⟨a1, a2, a3, a4⟩ := h.m.own b i c hi
      refine ⟨a2, a3, a4, fun x j hx hj => ?_, fun t ht => (h.on t c ht).2.1 b i hi⟩
      exact hx (h.m.inj b i x j c hi hj).1.symm
  · intro i j c hi hj
    simp only [owOut] at hi hj
    split at hi
    · cases hi
    · split at hj
      · cases hj
      · exact (h.m.inj b i b j c hi hj).2
  · obtain ⟨arr, t, h1, h2, h3⟩ := hok
    refine ⟨arr, t, h1, by rw [setAt_len]; exact h2, fun i c hi => ?_⟩
    rw [setAt_eq, List.getElem?_set] at hi
    split at hi
    · rename_i e; subst e
      split at hi
      · cases hi
        obtain ⟨v, v1, v2, v3, v4⟩ := h3 off _ hc
        have hr : RepD g.ρ g.I w (.sl z xs) v := by cases v2; assumption
        exact ⟨v, v1, .d hr, rfl, fun _ _ e => by cases e⟩
      · cases hi
    · rename_i e
      obtain ⟨v, v1, v2, v3, v4⟩ := h3 i c hi
      refine ⟨v, v1, v2, v3, fun sz ys ec => ?_⟩
      simp only [owOut]
      rw [if_neg (fun hh => e hh.2.symm)]
      exact v4 sz ys ec
  · intro s hs cs' ecs c hc' s' hl
    cases ecs
    rcases setAt_mem hc' with e | hm
    · subst e; exact absurd hl not_hasLoc_d
    · subst hs; exact h.clB s cs hp c hm s' hl

theorem stp_loseT {h : Option (List BObj)} (t : Nat) : Stp g oT h w g (fun n => if n = t then none else oT n) h w := .same (fun _ hb => .inl (mine_lose hb)) rfl

theorem snd_app (h : RS E g oT st a w) (hd : ∀ t, o.dst = some t → t < a.tmps.size) {t0 t1 e : TypeId} {x y : Operand} {ts : Array TypeId} {xv yv : XV} {n m : Nat} {d1 : TypeDesc}
    (hx : opnd x = some xv) (hy : opnd y = some yv) (ht0 : ts[0]? = some t0) (ht1 : ts[1]? = some t1) (ht : E.P.underlying t0 = some (.slice e)) (hdt : E.P.underlying t1 = some d1) (hd1 : ∀ k, d1 ≠ .int k)
    (hn : szP E.P e = some n) (hm : bytesP E.P e = some m) (hn0 : n ≠ 0) (hm0 : m ≠ 0) (hzo : zOk E.P e n = true)
    (hop : o.op = .call { callee := .builtin .append, args := #[x, y], argTypes := ts }) (hF : opF ⟨o.dst, .app n m xv yv, gd⟩ st = some st') : Res E (execOp a.eval o) g oT st.hp a w o.dst st' := by
  simp only [opF, Option.map_eq_some_iff] at hF
  obtain ⟨⟨v, s1⟩, hF, rfl⟩ := hF
  obtain ⟨i, hi, rfl, rfl⟩ := run_info hn hm
  obtain ⟨z, hz, hzs⟩ : ∃ z, i.zero = some z ∧ z.cells.size = i.size := by
    simp only [zOk, zeroP, hi, Option.bind_some] at hzo
    cases hz : i.zero with
    | none => simp [hz] at hzo
    | some z =>
      simp only [hz, Option.bind_some] at hzo
      split at hzo
      · rename_i d hd
        exact ⟨z, rfl, by rw [ofC_cells hd]; simpa using hzo⟩
      · cases hzo
  have hrun : ∀ v' w', (Builtin.append_ ts o.type #[a.eval x, a.eval y]).run E.P w = .ok v' w' → (execOp a.eval o).run E.P w = .ok (.value v') w' := by
    intro v' w' hr
    simp only [execOp, hop, resolve, Sem.run_bind, Sem.run_pure, Result.andThen_ok, invoke, builtin, List.map_toArray, List.map_cons, List.map_nil, hr]
  have hyr := ev_rep h hy
  have hxr := ev_rep h hx
  unfold appX at hF
  split at hF
  · cases hF
  · rename_i zy ys hl
    split at hF
    · rename_i hzy
      have hzy' : zy = some i.size ∨ zy = none := hzy
      cases ho : owned st xv with
      | some p =>
        obtain ⟨t, z', xs⟩ := p
        obtain ⟨rfl, hg⟩ := owned_some ho
        have hxt := opnd_t hx; subst hxt
        simp only [ho] at hF
        split at hF
        · rename_i hzz; subst hzz
          split at hF
          · rename_i hfit
            cases hF
            have hr := h.tm t
            rw [hg] at hr
            have hr' : RepD g.ρ g.I w (.sl i.size xs) (a.eval (.tmp t)) := by cases hr; assumption
            refine app_core (st := st.lose t) (ob := oT t) (stp_loseT t) (h.lose t) o.dst hd ht0 ht1 ht hdt hd1 hi hz hzs rfl hn0 hm0 (.inr ⟨hr', h.ot t _ xs hg⟩) ?_ (fun b hb => .inr (.inr ⟨t, hb⟩)) hyr hl hzy' hfit hrun
            intro b hb
            obtain ⟨b1, b2, b3, b4⟩ := h.on t b hb
            refine ⟨b1, b2, b3, b4, fun u => ?_⟩
            split
            · simp
            · rename_i e; intro hu; exact e (h.oi u t b hu hb)
          · cases hF
        · cases hF
      | none =>
        simp only [ho] at hF
        split at hF
        · rename_i hxe
          rw [hxe] at hxr
          have hxr := hxr.d_inv
          generalize hax : a.eval x = ax at hxr hrun
          cases hxr
          cases ys with
          | nil =>
            simp only [Option.some.injEq, Prod.mk.injEq] at hF
            obtain ⟨rfl, rfl⟩ := hF
            obtain ⟨q1, q2, vs, q3, q4, q5⟩ := cells_of_list (P := E.P) hyr hl hzy'
            refine .pure h _ _ (.slice none 0 0) hd (hrun _ _ ?_) (.d .nsl) (fun s hs => absurd hs not_hasLoc_d) (by simp)
            have hnew := q5 w fun _ _ => rfl
            have hdd : (match d1 with | .int _ => true | _ => false) = false := by
              cases d1 <;> first | rfl | exact absurd rfl (hd1 _)
            simp only [List.length_nil] at q1 hnew
            simp [Builtin.append_, ht0, ht1, run_underlying ht, run_underlying hdt, sizeOf, typeInfo, hi, q1, hnew]
          | cons y0 yl =>
            simp only at hF
            split at hF
            · rename_i hfit
              cases hF
              exact app_core (ob := none) (xs := []) (.refl g oT st.hp w) h o.dst hd ht0 ht1 ht hdt hd1 hi hz hzs rfl hn0 hm0 (.inl ⟨rfl, rfl, by simp⟩) (by simp) (by simp) hyr hl hzy' hfit hrun
            · cases hF
        · rename_i z0 xs0 hxe
          rw [hxe] at hxr
          have hxr := hxr.d_inv
          split at hF
          · rename_i nn
            have hxt := opnd_t hx; subst hxt
            split at hF
            · rename_i mm hcp
              split at hF
              · rename_i z' xs' hg
                split at hF
                · rename_i hzz; subst hzz
                  split at hF
                  · rename_i hfit
                    cases hF
                    have hcv : a.tmps.getD mm undef = a.eval (.tmp nn) := h.cp nn _ (cpGet_mem hcp)
                    have hr := h.tm mm
                    rw [hg, hcv] at hr
                    have hr' : RepD g.ρ g.I w (.sl i.size xs') (a.eval (.tmp nn)) := by cases hr; assumption
                    refine app_core (st := st.lose mm) (ob := oT mm) (stp_loseT mm) (h.lose mm) o.dst hd ht0 ht1 ht hdt hd1 hi hz hzs rfl hn0 hm0 (.inr ⟨hr', hcv ▸ h.ot mm _ xs' hg⟩) ?_ (fun b hb => .inr (.inr ⟨mm, hb⟩)) hyr hl hzy' hfit hrun
                    intro b hb
                    obtain ⟨b1, b2, b3, b4⟩ := h.on mm b hb
                    refine ⟨b1, b2, b3, b4, fun u => ?_⟩
                    split
                    · simp
                    · rename_i e; intro hu; exact e (h.oi u mm b hu hb)
                  · cases hF
                · cases hF
              · cases hF
            · rename_i r off hcp
              split at hF
              · rename_i cs hcs
                split at hF
                · rename_i z' xs' hg
                  split at hF
                  · rename_i hzz; subst hzz
                    split at hF
                    · rename_i hfit
                      cases hF
                      obtain ⟨b', hb1, hb2⟩ := h.cp nn _ (cpGet_mem hcp)
                      obtain ⟨b, hb, hok⟩ := h.m.con (.fr r) _ hcs
                      have : b' = b := by have : resB g.fs r = some b := hb; rw [hb1] at this; exact Option.some.inj this
                      subst this
                      have hL := h.loseC (p := .fr r) hcs hg hb hok
                      rw [setP_fr] at hL
                      obtain ⟨arr, t, k1, k2, k3⟩ := hok
                      rw [cellAt_eq] at hg
                      obtain ⟨v, v1, v2, v3, v4⟩ := k3 off _ hg
                      have hv : v = a.eval (.tmp nn) := by
                        simp only [World.cell?, k1, Option.isSome_none, Bool.false_eq_true, if_false, v1] at hb2
                        exact Option.some.inj hb2
                      rw [hv] at v2 v4
                      have hr' : RepD g.ρ g.I w (.sl i.size xs') (a.eval (.tmp nn)) := by cases v2; assumption
                      refine app_core (st := st.setFrs (refSet st.frs r (.cells (setAt cs off (.d (.sl i.size xs')))))) (ob := g.owM b' off) (g := { g with owM := owOut g b' off }) ?_ hL o.dst hd ht0 ht1 ht hdt hd1 hi hz hzs rfl hn0 hm0 (.inr ⟨hr', v4 _ _ rfl⟩) ?_
                        (fun b hb => .inr (.inl ⟨_, _, hb⟩)) hyr hl hzy' hfit hrun
                      · rw [← setP_fr]
                        refine Stp.upd h.m (p := .fr r) hcs hb (.refl _ _ _ _) rfl (fun _ _ => rfl) rfl rfl rfl (fun x i c hc => .inr (.inl ⟨x, i, ?_⟩))
                        simp only [owOut] at hc
                        split at hc
                        · cases hc
                        · exact hc
                      · intro c hc
                        obtain ⟨a1, a2, a3, a4⟩ := h.m.own b' off c hc
                        refine ⟨?_, fun x j hx => ?_, a3, a4, fun t ht => (h.on t c ht).2.1 _ _ hc⟩
                        · have e : (st.setFrs (refSet st.frs r (.cells (setAt cs off (.d (.sl i.size xs')))))).hp = st.hp := by rw [← setP_fr]; exact (setP_spec _ _ _ _).2.1
                          rw [e]; exact a2
                        · simp only [owOut] at hx
                          split at hx
                          · cases hx
                          · rename_i hne; exact hne ⟨(h.m.inj x j b' off c hx hc).1, (h.m.inj x j b' off c hx hc).2⟩
                    · cases hF
                  · cases hF
                · cases hF
              · cases hF
            · rename_i oo off hcp
              split at hF
              · rename_i cs hcs
                split at hF
                · rename_i z' xs' hg
                  split at hF
                  · rename_i hzz; subst hzz
                    split at hF
                    · rename_i hfit
                      cases hF
                      obtain ⟨hb0, b', hb1, hb2⟩ := h.cp nn _ (cpGet_mem hcp)
                      obtain ⟨b, hb, hok⟩ := h.m.con (.ob oo) _ hcs
                      have : b' = b := by have : g.ρ[oo]? = some b := hb; rw [hb1] at this; exact Option.some.inj this
                      subst this
                      have hL := h.loseC (p := .ob oo) hcs hg hb hok
                      rw [setP_ob] at hL
                      obtain ⟨arr, t, k1, k2, k3⟩ := hok
                      rw [cellAt_eq] at hg
                      obtain ⟨v, v1, v2, v3, v4⟩ := k3 off _ hg
                      have hv : v = a.eval (.tmp nn) := by
                        simp only [World.cell?, k1, Option.isSome_none, Bool.false_eq_true, if_false, v1] at hb2
                        exact Option.some.inj hb2
                      rw [hv] at v2 v4
                      have hr' : RepD g.ρ g.I w (.sl i.size xs') (a.eval (.tmp nn)) := by cases v2; assumption
                      refine app_core (st := { st with hp := hSet st.hp oo (.cells (setAt cs off (.d (.sl i.size xs')))) }) (ob := g.owM b' off) (g := { g with owM := owOut g b' off }) ?_ hL o.dst hd ht0 ht1 ht hdt hd1 hi hz hzs rfl hn0 hm0 (.inr ⟨hr', v4 _ _ rfl⟩) ?_
                        (fun b hb => .inr (.inl ⟨_, _, hb⟩)) hyr hl hzy' hfit hrun
                      · exact Stp.upd (cp := st.cp) (o' := .cells (setAt cs off (.d (.sl i.size xs')))) h.m (p := .ob oo) hcs hb (.refl _ _ _ _) rfl (fun _ _ => rfl) rfl rfl rfl (fun x i c hc => .inr (.inl ⟨x, i, by
                          simp only [owOut] at hc
                          split at hc
                          · cases hc
                          · exact hc⟩))
                      · intro c hc
                        obtain ⟨a1, a2, a3, a4⟩ := h.m.own b' off c hc
                        refine ⟨?_, fun x j hx => ?_, a3, a4, fun t ht => (h.on t c ht).2.1 _ _ hc⟩
                        · show c ∉ blks { g with owM := owOut g b' off } (plSet st.frs st.hp (.ob oo) (.cells (setAt cs off (.d (.sl i.size xs'))))).2
                          rw [blks_plSet]; exact a2
                        · simp only [owOut] at hx
                          split at hx
                          · cases hx
                          · rename_i hne; exact hne ⟨(h.m.inj x j b' off c hx hc).1, (h.m.inj x j b' off c hx hc).2⟩
                    · cases hF
                  · cases hF
                · cases hF
              · cases hF
            · cases ys with
              | nil =>
                simp only [Option.some.injEq, Prod.mk.injEq] at hF
                obtain ⟨rfl, rfl⟩ := hF
                obtain ⟨q1, q2, vs, q3, q4, q5⟩ := cells_of_list (P := E.P) hyr hl hzy'
                obtain ⟨b, off, cap, vs', he, hcap, _⟩ := cells_of_sl (P := E.P) hxr
                have hv0 : vs = #[] := Array.eq_empty_of_size_eq_zero (by rw [q4]; simp)
                have hr := run_app_room (P := E.P) w w o.type ht0 ht1 ht hdt hd1 hi q1 (q5 w fun _ _ => rfl) (sLen := xs0.length) (sCap := cap) (by simpa using hcap) (b := b) (off := off) (by rw [hv0]; rfl)
                rw [← he] at hr
                rw [he] at hxr
                exact .pure h _ _ _ hd (hrun _ _ hr) (.d hxr) (fun s hs => absurd hs not_hasLoc_d) (by simp)
              | cons y0 yl => cases hF
          · cases hF
        · cases hF
    · cases hF

end
end Go.Px

/- What one operation does: new boxes. -/
namespace Go.Px
section
variable {E : Env} {g : Gh} {oT : Nat → Option Nat} {st st' : St} {a : Act} {w : World} {o : Oper} {gd : Option (Nat × Bool)}

theorem one_cells {ρ : List Nat} {I : Nat → Nat → Prop} {w : World} {fs : List (List (Nat × Nat))} {c : AV} {v : Value} (h : RepA ρ I w fs c v) (ho : c.one = true) (hd : c ≠ .dead) : v.cells = #[v] ∧ v.oneCell' = true := by
  cases h with
  | d h => cases h <;> first | exact ⟨rfl, rfl⟩ | cases ho
  | os h => cases h; exact ⟨rfl, rfl⟩
  | bp off h => exact ⟨rfl, rfl⟩
  | mb h => exact ⟨rfl, rfl⟩
  | it h => exact ⟨rfl, rfl⟩
  | fn hl h => exact ⟨rfl, rfl⟩
  | tup hl h => cases ho
  | dead x => exact absurd rfl hd

/-- What a value's cells are. -/
structure ValOk (E : Env) (g : Gh) (st : St) (oT1 : Nat → Option Nat) (w : World) (vs : List AV) (cs : Array Value) (ob : Option Nat) : Prop where
  len : cs.size = vs.length
  rep : ∀ (i : Nat) c v, vs[i]? = some c → cs[i]? = some v → RepA g.ρ g.I w g.fs c v ∧ c.one = true ∧ v.oneCell' = true ∧ (∀ s, HasLoc c s → frGet st.bx s ≠ none) ∧ ∀ sz xs, c = .os sz xs → i = 0 ∧ OwnC w g.I sz xs v ob
  own : ∀ b, ob = some b → b ∉ blks g st.hp ∧ (∀ y i, g.owM y i ≠ some b) ∧ E.w0.heap.size ≤ b ∧ b < w.heap.size ∧ ∀ t, oT1 t ≠ some b

theorem valCells_spec (h : RS E g oT st a w) {x : Operand} {xv : XV} (hx : opnd x = some xv) {n : Nat} {vs : List AV} {st1 : St} (hv : valCells st n xv = some (vs, st1)) :
    ∃ oT1 ob, RS E g oT1 st1 a w ∧ (st1.bx = st.bx ∧ st1.up = st.up ∧ st1.hp = st.hp ∧ st1.cp = st.cp) ∧ vs.length = n ∧ ValOk E g st oT1 w vs (a.eval x).cells ob ∧ (∀ b, ob = some b → Mine g oT st.hp b) ∧ Stp g oT st.hp w g oT1 st.hp w := by
  have hr := ev_rep h hx
  have hloc : ∀ s, HasLoc (ev st xv) s → frGet st.bx s ≠ none := fun s => ev_loc h xv
  unfold valCells at hv
  cases ho : owned st xv with
  | some p =>
    obtain ⟨t, sz, xs⟩ := p
    obtain ⟨rfl, hg⟩ := owned_some ho
    have hxt := opnd_t hx; subst hxt
    simp only [ho] at hv
    split at hv
    · rename_i hn; subst hn
      cases hv
      have hr := h.tm t
      rw [hg] at hr
      have hc : (a.eval (.tmp t)).cells = #[a.eval (.tmp t)] ∧ (a.eval (.tmp t)).oneCell' = true := one_cells hr rfl (by simp)
      refine ⟨_, oT t, h.lose t, ⟨rfl, rfl, rfl, rfl⟩, rfl, ⟨by rw [hc.1]; rfl, ?_, ?_⟩, fun b hb => .inr (.inr ⟨t, hb⟩), stp_loseT t⟩
      · intro i c v hi hcv
        rw [hc.1] at hcv
        cases i with
        | zero =>
          cases hi
          simp at hcv; subst hcv
          exact ⟨hr, rfl, hc.2, fun s hs => absurd hs not_hasLoc_os, fun sz xs e => by cases e; exact ⟨rfl, h.ot t _ _ hg⟩⟩
        | succ i => simp at hi
      · intro b hb
        obtain ⟨b1, b2, b3, b4⟩ := h.on t b hb
        refine ⟨b1, b2, b3, b4, fun u => ?_⟩
        split
        · simp
        · rename_i e; intro hu; exact e (h.oi u t b hu hb)
    · cases hv
  | none =>
    simp only [ho] at hv
    have key : ∀ v : AV, ev st xv = v → v.one = true → v ≠ .dead → (if n = 1 then some ([v], st) else none) = some (vs, st1) →
        ∃ oT1 ob, RS E g oT1 st1 a w ∧ (st1.bx = st.bx ∧ st1.up = st.up ∧ st1.hp = st.hp ∧ st1.cp = st.cp) ∧ vs.length = n ∧ ValOk E g st oT1 w vs (a.eval x).cells ob ∧ (∀ b, ob = some b → Mine g oT st.hp b) ∧ Stp g oT st.hp w g oT1 st.hp w := by
      intro v hev hone hdead hk
      clear hv
      split at hk
      · rename_i hn; subst hn
        cases hk
        rw [hev] at hr hloc
        have hc := one_cells hr hone hdead
        refine ⟨oT, none, h, ⟨rfl, rfl, rfl, rfl⟩, rfl, ⟨by rw [hc.1]; rfl, ?_, by simp⟩, by simp, .refl _ _ _ _⟩
        intro i c u hi hcv
        rw [hc.1] at hcv
        cases i with
        | zero =>
          cases hi
          simp at hcv; subst hcv
          exact ⟨hr, hone, hc.2, hloc, fun sz xs e => absurd (hev.trans e) (ev_ne st xv sz xs)⟩
        | succ i => simp at hi
      · cases hk
    split at hv
    · rename_i cs hev
      split at hv
      · rename_i hn
        cases hv
        rw [hev] at hr
        have hr := hr.d_inv
        generalize hax : a.eval x = ax at hr
        cases hr with | @agg _ us hl ho' hh =>
        refine ⟨oT, none, h, ⟨rfl, rfl, rfl, rfl⟩, by simpa using hn, ⟨by simpa [Value.cells] using hl, ?_, by simp⟩, by simp, .refl _ _ _ _⟩
        intro i c u hi hcv
        simp only [List.getElem?_map, Option.map_eq_some_iff] at hi
        obtain ⟨c', hc', rfl⟩ := hi
        have hr' := hh i c' u hc' hcv
        have hone := ho' c' (List.mem_of_getElem? hc')
        exact ⟨.d hr', hone, one_rep hr' hone, fun s hs => absurd hs not_hasLoc_d, fun sz xs e => by cases e⟩
      · cases hv
    · cases hv
    · cases hv
    · cases hv
    · rename_i v h1 h2 h3 h4
      have hone : (ev st xv).one = true := by
        cases hev : ev st xv with
        | d d => cases d <;> first | rfl | exact absurd hev (h1 _)
        | tup vs => exact absurd hev (h3 _)
        | dead => exact absurd hev h2
        | _ => rfl
      exact key _ rfl hone h2 hv

/-- A new frame's box, in the state. -/
theorem RS.allocB (h : RS E g oT st a w) {t : Nat} (ht : frGet st.bx t = none) (o : BObj) (x : Obj) (f : List (Nat × Nat)) (fs : List (List (Nat × Nat))) (hfs : g.fs = f :: fs) (ow : Nat → Nat → Option Nat)
    (how : ∀ y i, y ≠ w.heap.size → ow y i = g.owM y i)
    (how' : ∀ i c, ow w.heap.size i = some c → c ∉ blks g st.hp ∧ E.w0.heap.size ≤ c ∧ c < w.heap.size ∧ (∀ y j, g.owM y j ≠ some c) ∧ ∀ t, oT t ≠ some c)
    (hinj : ∀ i j c, ow w.heap.size i = some c → ow w.heap.size j = some c → i = j)
    (hok : BoxOk (w.alloc x) { g with fs := ((t, w.heap.size) :: f) :: fs, owM := ow } (((t, w.heap.size) :: f) :: fs) w.heap.size o)
    (hcl : ∀ cs, o = .cells cs → ∀ c ∈ cs, ∀ s', HasLoc c s' → frGet st.bx s' ≠ none) :
    RS E { g with fs := ((t, w.heap.size) :: f) :: fs, owM := ow } oT { st with bx := frIns st.bx t o } a (w.alloc x) := by
  have hold : ∀ k, k < w.heap.size → (w.alloc x).heap[k]? = w.heap[k]? := fun k hk => RowKit.Below.heap_alloc w x k hk
  have hsz : (w.alloc x).heap.size = w.heap.size + 1 := by simp
  have hI : ∀ c k, g.I c k → (w.alloc x).cell? ⟨c, k, none⟩ = w.cell? ⟨c, k, none⟩ := fun c k hc => cell?_of (hold c (h.m.lt c k hc)) k
  have hg1 : ∀ s, frGet st.bx s ≠ none → frGet (frIns st.bx t o) s ≠ none := by
    intro s hs; rw [frGet_frIns ht]; split
    · simp
    · exact hs
  have hres : ∀ r b, resB g.fs r = some b → (∀ s ∈ r.locs, frGet st.bx s ≠ none) → resB (((t, w.heap.size) :: f) :: fs) r = some b := by
    intro r b hr hs
    cases r with
    | loc s =>
      rw [hfs] at hr
      simp only [resB, lkN] at hr ⊢
      have := hs s (by simp [Ref.locs])
      rw [if_neg (by rintro rfl; exact this ht)]; exact hr
    | up r => rw [hfs] at hr; exact hr
  have hnf : ∀ c, c ∉ blks g st.hp → c < w.heap.size → c ∉ blks { g with fs := ((t, w.heap.size) :: f) :: fs, owM := ow } st.hp := by
    intro c hc hlt hm
    simp only [blks, hfs, List.flatMap_cons, List.map_cons, List.mem_append, List.mem_cons] at hc hm
    rcases hm with hm | (hm | hm) | hm
    · exact hc (.inl hm)
    · omega
    · exact hc (.inr (.inl hm))
    · exact hc (.inr (.inr hm))
  refine ⟨?_, ?_, ?_, ?_, h.oi, ?_, ?_, ?_, ?_⟩
  · exact h.m.allocB (bx := st.bx) (U := st.up) hfs ht o x ow h.clB how (fun i c hc => by obtain ⟨a1, a2, a3, a4, _⟩ := how' i c hc; exact ⟨a1, a2, a3, a4⟩) hinj hok
  · intro s; exact (h.tm s).mono (List.prefix_refl _) (fun _ _ x => x) hI (fun r b hr hs => hres r b hr fun s' hs' => h.clT s s' (hs s' hs'))
  · intro s sz xs e; exact (h.ot s sz xs e).mono fun c hc => ⟨hold c (h.on s c hc).2.2.2, fun _ x => x⟩
  · intro s c hc
    obtain ⟨b1, b2, b3, b4⟩ := h.on s c hc
    refine ⟨hnf c b1 b4, fun y i hy => ?_, b3, by omega⟩
    by_cases hyb : y = w.heap.size
    · subst hyb; exact (how' i c hy).2.2.2.2 s hc
    · exact b2 y i ((how y i hyb) ▸ hy)
  · intro s l hl
    have hc := h.cp s l hl
    have key : ∀ c k v, w.cell? ⟨c, k, none⟩ = some v → (w.alloc x).cell? ⟨c, k, none⟩ = some v := fun c k v hv => (cell?_of (hold c (World.block_lt_of_cell? w _ hv)) k).trans hv
    cases l with
    | t n => exact hc
    | c r off => obtain ⟨c, a1, a2⟩ := hc; exact ⟨c, hres r c a1 (h.clC s r off hl), key c off _ a2⟩
    | o i off => obtain ⟨a0, c, a1, a2⟩ := hc; exact ⟨a0, c, a1, key c off _ a2⟩
  · intro s s' hs; exact hg1 s' (h.clT s s' hs)
  · intro s cs hs c hc s' hl
    simp only at hs
    rw [frGet_frIns ht] at hs
    split at hs
    · cases hs; exact hg1 s' (hcl cs rfl c hc s' hl)
    · exact hg1 s' (h.clB s cs hs c hc s' hl)
  · intro s r off hl s' hs'; exact hg1 s' (h.clC s r off hl s' hs')

theorem stp_allocB (h : RelM E g st.frs st.hp w) (f : List (Nat × Nat)) (fs : List (List (Nat × Nat))) (hfs : g.fs = f :: fs) {t : Nat} {x : Obj} {ow : Nat → Nat → Option Nat}
    {g0 : Gh} {oT0 : Nat → Option Nat} {h0 : Option (List BObj)} (hm0 : Stp g0 oT0 h0 w g oT st.hp w) (how : ∀ y i c, ow y i = some c → Mine g0 oT0 h0 c ∨ w.heap.size ≤ c) :
    Stp g0 oT0 h0 w { g with fs := ((t, w.heap.size) :: f) :: fs, owM := ow } oT st.hp (w.alloc x) := by
  have hold : ∀ k, k < w.heap.size → (w.alloc x).heap[k]? = w.heap[k]? := fun k hk => RowKit.Below.heap_alloc w x k hk
  refine ⟨by simp, rfl, rfl, rfl, hm0.I, fun c k hc => cell?_of (hold c (h.lt c k (hm0.I c k hc))) k, fun b hb hn => ⟨hold b hb, (hm0.far b hb hn).2⟩, fun b hb => ?_, hm0.ρ, ?_, hm0.hs, hm0.ρn⟩
  · rcases hb with hb | ⟨y, i, hy⟩ | hb
    · simp only [blks, List.flatMap_cons, List.map_cons, List.mem_append, List.mem_cons] at hb
      rcases hb with hb | (hb | hb) | hb
      · exact hm0.mine b (.inl (List.mem_append_left _ hb))
      · exact .inr (by omega)
      · exact hm0.mine b (.inl (List.mem_append_right _ (by rw [hfs]; exact List.mem_append_left _ hb)))
      · exact hm0.mine b (.inl (List.mem_append_right _ (by rw [hfs]; exact List.mem_append_right _ hb)))
    · exact how y i b hy
    · exact hm0.mine b (.inr (.inr hb))
  · rw [← hm0.fs, hfs]; rfl

end
end Go.Px

/- What one operation does: new boxes, new objects. -/
namespace Go.Px
section
variable {E : Env} {g : Gh} {oT : Nat → Option Nat} {st st' : St} {a : Act} {w : World} {o : Oper} {gd : Option (Nat × Bool)}

theorem RS.fs_cons (h : RS E g oT st a w) : ∃ f fs, g.fs = f :: fs := by
  have := h.m.len
  cases hf : g.fs with
  | nil => rw [hf] at this; simp [St.frs] at this
  | cons f fs => exact ⟨f, fs, rfl⟩

theorem pushB_eq {t : Nat} {x : BObj} {s1 : St} (h : st.pushB t x = some s1) : frGet st.bx t = none ∧ s1 = { st with bx := frIns st.bx t x } := by
  unfold St.pushB at h
  split at h
  · rename_i e; cases h; exact ⟨e, rfl⟩
  · cases h

theorem pushH_eq {x : BObj} {p : Nat × St} (h : st.pushH x = some p) : ∃ os, st.hp = some os ∧ p = (os.length, { st with hp := some (os ++ [x]) }) := by
  unfold St.pushH at h
  split at h
  · rename_i os e; cases h; exact ⟨os, e, rfl⟩
  · cases h

/-- The cells of a new row. -/
theorem cells_new {ρ' : List Nat} {fs' : List (List (Nat × Nat))} {ow : Nat → Nat → Option Nat} {vs : List AV} {cs : Array Value} {oT1 : Nat → Option Nat} {ob : Option Nat} (hm : RelM E g st.frs st.hp w) (hv : ValOk E g st oT1 w vs cs ob) (e : TypeId)
    (_ : g.ρ <+: ρ') (fs1 : List (List (Nat × Nat))) (hf : ∀ (i : Nat) c v, vs[i]? = some c → RepA g.ρ g.I w g.fs c v → ∀ w' : World, (∀ b k, g.I b k → w'.cell? ⟨b, k, none⟩ = w.cell? ⟨b, k, none⟩) → RepA ρ' g.I w' fs1 c v)
    (how : ∀ i, ow w.heap.size i = if i = 0 then ob else none) :
    CellsOk (w.alloc (.cells cs e)) { g with ρ := ρ', fs := fs', owM := ow } fs1 w.heap.size vs := by
  have hold : ∀ k, k < w.heap.size → (w.alloc (.cells cs e)).heap[k]? = w.heap[k]? := fun k hk => RowKit.Below.heap_alloc w _ k hk
  have hI : ∀ c k, g.I c k → (w.alloc (.cells cs e)).cell? ⟨c, k, none⟩ = w.cell? ⟨c, k, none⟩ := fun c k hc => cell?_of (hold c (hm.lt c k hc)) k
  refine ⟨cs, e, heap_alloc_new w _, hv.len, fun i c hi => ?_⟩
  have hlt := (List.getElem?_eq_some_iff.1 hi).1
  have hcl : i < cs.size := by rw [hv.len]; exact hlt
  have hcs : cs[i]? = some cs[i] := Array.getElem?_eq_getElem hcl
  obtain ⟨r1, r2, r3, r4, r5⟩ := hv.rep i c _ hi hcs
  refine ⟨_, hcs, hf i c _ hi r1 _ hI, r2, fun sz xs ec => ?_⟩
  obtain ⟨i0, hown⟩ := r5 sz xs ec
  subst i0
  rw [show ({ g with ρ := ρ', fs := fs', owM := ow } : Gh).owM w.heap.size 0 = ob by simp [how]]
  exact hown.mono fun b hb => ⟨hold b (hv.own b hb).2.2.2.1, fun _ x => x⟩

/-- A new box and its pointer. -/
theorem box_core {sem : Sem Next} {g0 : Gh} {oT0 : Nat → Option Nat} {h0 : Option (List BObj)} (hm0 : Stp g0 oT0 h0 w g oT st.hp w) (h : RS E g oT st a w) {t : Nat} (hd : t < a.tmps.size) (ht : frGet st.bx t = none)
    {vs : List AV} {cs : Array Value} {ob : Option Nat} (hv : ValOk E g st oT w vs cs ob) (hob : ∀ b, ob = some b → Mine g0 oT0 h0 b) (e : TypeId)
    (hrun : sem.run E.P w = .ok (.value (.pointer (some ⟨w.heap.size, 0, none⟩))) (w.alloc (.cells cs e))) :
    Res E sem g0 oT0 h0 a w (some t) (St.put { st with bx := frIns st.bx t (.cells vs) } (some t) (.bp (.loc t) 0)) := by
  obtain ⟨f, fs, hfs⟩ := h.fs_cons
  have hlt : ∀ x i c, g.owM x i = some c → x < w.heap.size := fun x i c hc => (h.m.new x (h.m.own x i c hc).1).2.1
  have hres : ∀ r b, resB g.fs r = some b → (∀ s ∈ r.locs, frGet st.bx s ≠ none) → resB (((t, w.heap.size) :: f) :: fs) r = some b := by
    intro r b hr hs
    cases r with
    | loc s =>
      rw [hfs] at hr
      simp only [resB, lkN] at hr ⊢
      have := hs s (by simp [Ref.locs])
      rw [if_neg (by rintro rfl; exact this ht)]; exact hr
    | up r => rw [hfs] at hr; exact hr
  have hB := h.allocB ht (.cells vs) (.cells cs e) f fs hfs (fun x i => if x = w.heap.size then (if i = 0 then ob else none) else g.owM x i)
    (fun y i hy => by simp [hy])
    (fun i c hc => by
      simp only [if_true] at hc
      split at hc
      · obtain ⟨a1, a2, a3, a4, a5⟩ := hv.own c hc; exact ⟨a1, a3, a4, a2, a5⟩
      · cases hc)
    (fun i j c hi hj => by
      simp only [if_true] at hi hj
      split at hi
      · split at hj
        · omega
        · cases hj
      · cases hi)
    (cells_new h.m hv e (List.prefix_refl _) _ (fun i c v hi hr w' hw => by
      have hlen : i < cs.size := by rw [hv.len]; exact (List.getElem?_eq_some_iff.1 hi).1
      exact hr.mono (List.prefix_refl _) (fun _ _ x => x) hw (fun r b hr' hs => hres r b hr' fun s hs' => (hv.rep i c _ hi (Array.getElem?_eq_getElem hlen)).2.2.2.1 s (hs s hs'))) (by simp))
    (fun cs' e' c hc s' hl => by
      cases e'
      obtain ⟨i, hi⟩ := List.getElem?_of_mem hc
      have hlen : i < cs.size := by rw [hv.len]; exact (List.getElem?_eq_some_iff.1 hi).1
      exact (hv.rep i c _ hi (Array.getElem?_eq_getElem hlen)).2.2.2.1 s' hl)
  refine ⟨_, _, _, _, .inl hrun, hB.put (some t) (.bp (.loc t) 0) _ none (fun s hs => by cases hs; exact hd) (.bp 0 (by simp [resB, lkN])) ?_ (fun sz xs e => by cases e) (by simp), ?_⟩
  · intro s hs
    cases hs with | bp _ hs =>
    simp only [Ref.locs, List.mem_singleton] at hs
    subst hs
    simp [frGet_frIns ht]
  · refine (stp_allocB (x := .cells cs e) (ow := (fun x i => if x = w.heap.size then (if i = 0 then ob else none) else g.owM x i)) h.m f fs hfs hm0 (fun y i c hc => ?_)).trans (Stp.same (fun b hb => ?_) rfl)
    · split at hc
      · split at hc
        · exact .inl (hob c hc)
        · cases hc
      · rcases hm0.mine c (.inr (.inl ⟨y, i, hc⟩)) with h | h
        · exact .inl h
        · exact .inr h
    · rcases mine_put hb with hb | hb
      · exact .inl hb
      · cases hb

theorem snd_alloc (h : RS E g oT st a w) (hd : ∀ t, o.dst = some t → t < a.tmps.size) {e : TypeId} {n : Nat} {z : DV} (hz : zeroP E.P e = some z) (_ : szP E.P e = some n) (_ : z.cells.length = n)
    (hop : o.op = .alloc e) (hF : opF ⟨o.dst, .alloc z.cells false, gd⟩ st = some st') : Res E (execOp a.eval o) g oT st.hp a w o.dst st' := by
  simp only [opF] at hF
  split at hF
  · rename_i t ht
    simp only [Bool.false_eq_true, if_false, Option.map_eq_some_iff] at hF
    obtain ⟨s1, hs1, rfl⟩ := hF
    obtain ⟨h1, rfl⟩ := pushB_eq hs1
    obtain ⟨zv, hz1, hz2⟩ := run_zero (w := w) hz
    obtain ⟨c1, c2, c3⟩ := cells_rep (ofC_rep hz2 g.ρ g.I w)
    rw [ht]
    refine box_core (.refl _ _ _ _) h (hd t ht) h1 (vs := z.cells.map .d) (cs := zv.cells) (ob := none) ⟨by simpa using c1, ?_, by simp⟩ (by simp) e ?_
    · intro i c v hi hc
      simp only [List.getElem?_map, Option.map_eq_some_iff] at hi
      obtain ⟨c', hc', rfl⟩ := hi
      have hr := c2 i c' v hc' hc
      have ho := c3 c' (List.mem_of_getElem? hc')
      exact ⟨.d hr, ho, one_rep hr ho, fun s hs => absurd hs not_hasLoc_d, fun _ _ e => by cases e⟩
    · simp only [execOp, hop, Instr.alloc, Sem.run_bind, hz1, Result.andThen_ok, newVar, newRow, run_newObj_alloc, Sem.run_pure]
  · cases hF

theorem snd_box (h : RS E g oT st a w) (hd : ∀ t, o.dst = some t → t < a.tmps.size) {e : TypeId} {n : Nat} {x : Operand} {xv : XV} (hx : opnd x = some xv)
    (hop : o.op = .box e x) (hF : opF ⟨o.dst, .box n xv false, gd⟩ st = some st') : Res E (execOp a.eval o) g oT st.hp a w o.dst st' := by
  simp only [opF] at hF
  split at hF
  · rename_i t ht
    split at hF
    · rename_i vs s1 hv
      simp only [Bool.false_eq_true, if_false, Option.map_eq_some_iff] at hF
      obtain ⟨s2, hs2, rfl⟩ := hF
      obtain ⟨oT1, ob, hr, ⟨q1, q2, q3, q4⟩, hl, hok, hob, hst⟩ := valCells_spec h hx hv
      obtain ⟨h1, rfl⟩ := pushB_eq hs2
      rw [ht]
      refine box_core (st := s1) (by rw [q3]; exact hst) hr (hd t ht) h1 (cs := (a.eval x).cells) (ob := ob) ⟨hok.len, fun i c v hi hc => ?_, fun b hb => by rw [q3]; exact hok.own b hb⟩ hob e ?_
      · obtain ⟨r1, r2, r3, r4, r5⟩ := hok.rep i c v hi hc
        exact ⟨r1, r2, r3, fun s hs => by rw [q1]; exact r4 s hs, r5⟩
      · simp only [execOp, hop, Instr.box, Sem.run_bind, Result.andThen_ok, newVar, newRow, run_newObj_alloc, Sem.run_pure]
    · cases hF
  · cases hF

end
end Go.Px

/- What one operation does: new objects; new maps. -/
namespace Go.Px
section
variable {E : Env} {g : Gh} {oT : Nat → Option Nat} {st st' : St} {a : Act} {w : World} {o : Oper} {gd : Option (Nat × Bool)}

theorem pre_snoc (l : List Nat) (x : Nat) : l <+: l ++ [x] := List.prefix_append _ _

theorem RelM.allocH {U : List Frm} {os : List BObj} (h : RelM E g U (some os) w) (o : BObj) (x : Obj) (ow : Nat → Nat → Option Nat)
    (how : ∀ y i, y ≠ w.heap.size → ow y i = g.owM y i)
    (how' : ∀ i c, ow w.heap.size i = some c → c ∉ blks g (some os) ∧ E.w0.heap.size ≤ c ∧ c < w.heap.size ∧ ∀ y j, g.owM y j ≠ some c)
    (hinj : ∀ i j c, ow w.heap.size i = some c → ow w.heap.size j = some c → i = j)
    (hok : BoxOk (w.alloc x) { g with ρ := g.ρ ++ [w.heap.size], owM := ow } [] w.heap.size o) :
    RelM E { g with ρ := g.ρ ++ [w.heap.size], owM := ow } U (some (os ++ [o])) (w.alloc x) := by
  have hold : ∀ k, k < w.heap.size → (w.alloc x).heap[k]? = w.heap[k]? := fun k hk => RowKit.Below.heap_alloc w x k hk
  have hsz : (w.alloc x).heap.size = w.heap.size + 1 := by simp
  have hI : ∀ c k, g.I c k → (w.alloc x).cell? ⟨c, k, none⟩ = w.cell? ⟨c, k, none⟩ := fun c k hc => cell?_of (hold c (h.lt c k hc)) k
  have hlen := h.hlen os rfl
  have hblk : ∀ b, b ∈ blks { g with ρ := g.ρ ++ [w.heap.size], owM := ow } (some (os ++ [o])) ↔ b = w.heap.size ∨ b ∈ blks g (some os) := by
    intro b
    simp only [blks, List.mem_append, List.mem_singleton]
    constructor
    · rintro ((a | a) | a) <;> simp [a]
    · rintro (a | a | a) <;> simp [a]
  refine ⟨?_, h.len, ?_, ?_, ?_, ?_, ?_, ?_, ?_⟩
  · exact h.below.alloc (by have := h.below.size; omega) x
  · intro os' e; cases e; simp [hlen]
  · intro p o'' hp
    by_cases hpt : p = .ob os.length
    · subst hpt
      simp only [plGet, hGet, Option.bind_some, List.getElem?_append_right (Nat.le_refl _), Nat.sub_self, List.getElem?_cons_zero, Option.some.injEq] at hp
      subst hp
      exact ⟨w.heap.size, by simp [plB, hlen], hok⟩
    · have hp0 : plGet U (some os) p = some o'' := by
        cases p with
        | fr r => exact hp
        | ob i =>
          simp only [plGet, hGet, Option.bind_some] at hp ⊢
          have hi : i < os.length := by
            have := (List.getElem?_eq_some_iff.1 hp).1
            simp at this
            have : i ≠ os.length := fun e => hpt (by rw [e])
            omega
          rw [List.getElem?_append_left hi] at hp; exact hp
      obtain ⟨b, hb, hok'⟩ := h.con p o'' hp0
      have hbl := (h.new b (plB_mem hp0 hb)).2.1
      have hbB : plB { g with ρ := g.ρ ++ [w.heap.size], owM := ow } p = some b := by
        cases p with
        | fr r => exact hb
        | ob i =>
          have hlt := (List.getElem?_eq_some_iff.1 (show g.ρ[i]? = some b from hb)).1
          show (g.ρ ++ [w.heap.size])[i]? = some b
          rw [List.getElem?_append_left hlt]; exact hb
      exact ⟨b, hbB, hok'.mono (hold b hbl) (pre_snoc _ _) (fun _ _ x => x) hI (fun _ _ _ _ hx _ => hx) (fun i => how b i (by omega)) (fun i c hc => ⟨hold c (h.own b i c hc).2.2.2, fun _ x => x⟩)⟩
  · have hn := h.nd
    simp only [blks] at hn ⊢
    rw [List.nodup_append] at hn ⊢
    have hnew : ∀ y ∈ blks g (some os), y ≠ w.heap.size := fun y hy e => by have := (h.new y hy).2.1; omega
    refine ⟨?_, hn.2.1, ?_⟩
    · rw [List.nodup_append]
      refine ⟨hn.1, by simp, ?_⟩
      intro x hx y hy
      simp only [List.mem_singleton] at hy
      subst hy
      exact hnew x (List.mem_append_left _ hx)
    · intro x hx y hy
      rcases List.mem_append.1 hx with hx | hx
      · exact hn.2.2 x hx y hy
      · simp only [List.mem_singleton] at hx
        subst hx
        exact (hnew y (List.mem_append_right _ hy)).symm
  · intro b hb
    rcases (hblk b).1 hb with rfl | hb
    · exact ⟨h.below.size, by omega, fun k hk => by have := h.lt _ k hk; omega⟩
    · obtain ⟨a1, a2, a3⟩ := h.new b hb; exact ⟨a1, by omega, a3⟩
  · intro y i c hc
    by_cases hy : y = w.heap.size
    · subst hy
      obtain ⟨c1, c2, c3, c4⟩ := how' i c hc
      exact ⟨(hblk _).2 (.inl rfl), fun hm => (hblk c).1 hm |>.elim (by omega) c1, c2, by omega⟩
    · obtain ⟨a1, a2, a3, a4⟩ := h.own y i c ((how y i hy) ▸ hc)
      exact ⟨(hblk y).2 (.inr a1), fun hm => (hblk c).1 hm |>.elim (by omega) a2, a3, by omega⟩
  · intro y i z j c hy hz
    by_cases h1 : y = w.heap.size
    · subst h1
      by_cases h2 : z = w.heap.size
      · subst h2; exact ⟨rfl, hinj i j c hy hz⟩
      · exact absurd ((how z j h2) ▸ hz) ((how' i c hy).2.2.2 z j)
    · by_cases h2 : z = w.heap.size
      · subst h2; exact absurd ((how y i h1) ▸ hy) ((how' j c hz).2.2.2 y i)
      · exact h.inj y i z j c ((how y i h1) ▸ hy) ((how z j h2) ▸ hz)
  · intro c k hc; have := h.lt c k hc; omega

theorem RS.allocH (h : RS E g oT st a w) {os : List BObj} (hos : st.hp = some os) (o : BObj) (x : Obj) (ow : Nat → Nat → Option Nat)
    (how : ∀ y i, y ≠ w.heap.size → ow y i = g.owM y i)
    (how' : ∀ i c, ow w.heap.size i = some c → c ∉ blks g st.hp ∧ E.w0.heap.size ≤ c ∧ c < w.heap.size ∧ (∀ y j, g.owM y j ≠ some c) ∧ ∀ t, oT t ≠ some c)
    (hinj : ∀ i j c, ow w.heap.size i = some c → ow w.heap.size j = some c → i = j)
    (hok : BoxOk (w.alloc x) { g with ρ := g.ρ ++ [w.heap.size], owM := ow } [] w.heap.size o) :
    RS E { g with ρ := g.ρ ++ [w.heap.size], owM := ow } oT { st with hp := some (os ++ [o]) } a (w.alloc x) := by
  have hold : ∀ k, k < w.heap.size → (w.alloc x).heap[k]? = w.heap[k]? := fun k hk => RowKit.Below.heap_alloc w x k hk
  have hsz : (w.alloc x).heap.size = w.heap.size + 1 := by simp
  have hI : ∀ c k, g.I c k → (w.alloc x).cell? ⟨c, k, none⟩ = w.cell? ⟨c, k, none⟩ := fun c k hc => cell?_of (hold c (h.m.lt c k hc)) k
  have hnf : ∀ c, c ∉ blks g st.hp → c < w.heap.size → c ∉ blks { g with ρ := g.ρ ++ [w.heap.size], owM := ow } (some (os ++ [o])) := by
    intro c hc hlt hm
    rw [hos] at hc
    simp only [blks, List.mem_append, List.mem_singleton] at hc hm
    rcases hm with (hm | hm) | hm
    · exact hc (.inl hm)
    · omega
    · exact hc (.inr hm)
  refine ⟨?_, ?_, ?_, ?_, h.oi, ?_, h.clT, h.clB, h.clC⟩
  · have hm := h.m
    rw [hos] at hm how'
    exact hm.allocH o x ow how (fun i c hc => by obtain ⟨a1, a2, a3, a4, _⟩ := how' i c hc; exact ⟨a1, a2, a3, a4⟩) hinj hok
  · intro s; exact (h.tm s).mono (pre_snoc _ _) (fun _ _ x => x) hI (fun r b hr _ => hr)
  · intro s sz xs e; exact (h.ot s sz xs e).mono fun c hc => ⟨hold c (h.on s c hc).2.2.2, fun _ x => x⟩
  · intro s c hc
    obtain ⟨b1, b2, b3, b4⟩ := h.on s c hc
    refine ⟨hnf c b1 b4, fun y i hy => ?_, b3, by omega⟩
    by_cases hyb : y = w.heap.size
    · subst hyb; exact (how' i c hy).2.2.2.2 s hc
    · exact b2 y i ((how y i hyb) ▸ hy)
  · intro s l hl
    have hc := h.cp s l hl
    have key : ∀ c k v, w.cell? ⟨c, k, none⟩ = some v → (w.alloc x).cell? ⟨c, k, none⟩ = some v := fun c k v hv => (cell?_of (hold c (World.block_lt_of_cell? w _ hv)) k).trans hv
    cases l with
    | t n => exact hc
    | c r off => obtain ⟨c, a1, a2⟩ := hc; exact ⟨c, a1, key c off _ a2⟩
    | o i off =>
      obtain ⟨a0, c, a1, a2⟩ := hc
      refine ⟨by simp, c, ?_, key c off _ a2⟩
      show (g.ρ ++ [w.heap.size])[i]? = some c
      rw [List.getElem?_append_left (List.getElem?_eq_some_iff.1 a1).1]; exact a1

theorem stp_allocH {os : List BObj} (h : RelM E g st.frs st.hp w) (hos : st.hp = some os) {o : BObj} {x : Obj} {ow : Nat → Nat → Option Nat}
    {g0 : Gh} {oT0 : Nat → Option Nat} {h0 : Option (List BObj)} (hm0 : Stp g0 oT0 h0 w g oT st.hp w) (how : ∀ y i c, ow y i = some c → Mine g0 oT0 h0 c ∨ w.heap.size ≤ c) :
    Stp g0 oT0 h0 w { g with ρ := g.ρ ++ [w.heap.size], owM := ow } oT (some (os ++ [o])) (w.alloc x) := by
  have hold : ∀ k, k < w.heap.size → (w.alloc x).heap[k]? = w.heap[k]? := fun k hk => RowKit.Below.heap_alloc w x k hk
  refine ⟨by simp, rfl, rfl, rfl, hm0.I, fun c k hc => cell?_of (hold c (h.lt c k (hm0.I c k hc))) k, fun b hb hn => ⟨hold b hb, (hm0.far b hb hn).2⟩, fun b hb => ?_, hm0.ρ.trans (pre_snoc _ _), hm0.fs, ?_, fun e => by have := hm0.hs; rw [e, hos] at this; cases this⟩
  · rcases hb with hb | ⟨y, i, hy⟩ | hb
    · simp only [blks, List.mem_append, List.mem_singleton] at hb
      rcases hb with (hb | hb) | hb
      · exact hm0.mine b (.inl (by rw [hos]; exact List.mem_append_left _ hb))
      · exact .inr (by omega)
      · exact hm0.mine b (.inl (List.mem_append_right _ hb))
    · exact how y i b hy
    · exact hm0.mine b (.inr (.inr hb))
  · rw [← hm0.hs, hos]; rfl

/-- A new object and its pointer. -/
theorem obj_core {sem : Sem Next} {g0 : Gh} {oT0 : Nat → Option Nat} {h0 : Option (List BObj)} (hm0 : Stp g0 oT0 h0 w g oT st.hp w) (h : RS E g oT st a w) {t : Nat} (hd : t < a.tmps.size) {os : List BObj} (hos : st.hp = some os)
    {vs : List AV} {cs : Array Value} {ob : Option Nat} (hv : ValOk E g st oT w vs cs ob) (hpl : vs.all AV.plain = true) (hob : ∀ b, ob = some b → Mine g0 oT0 h0 b) (e : TypeId)
    (hrun : sem.run E.P w = .ok (.value (.pointer (some ⟨w.heap.size, 0, none⟩))) (w.alloc (.cells cs e))) :
    Res E sem g0 oT0 h0 a w (some t) (St.put { st with hp := some (os ++ [.cells vs]) } (some t) (.d (.op os.length 0))) := by
  have hlen : os.length = g.ρ.length := h.m.hlen os hos
  have hB := h.allocH hos (.cells vs) (.cells cs e) (fun x i => if x = w.heap.size then (if i = 0 then ob else none) else g.owM x i)
    (fun y i hy => by simp [hy])
    (fun i c hc => by
      simp only [if_true] at hc
      split at hc
      · obtain ⟨a1, a2, a3, a4, a5⟩ := hv.own c hc; exact ⟨a1, a3, a4, a2, a5⟩
      · cases hc)
    (fun i j c hi hj => by
      simp only [if_true] at hi hj
      split at hi
      · split at hj
        · omega
        · cases hj
      · cases hi)
    (cells_new (fs' := g.fs) h.m hv e (pre_snoc _ _) _ (fun i c v hi hr w' hw => by
      have hp := List.all_eq_true.1 hpl c (List.mem_of_getElem? hi)
      cases hr with
      | d hr => exact .d (hr.mono (pre_snoc _ _) (fun _ _ x => x) hw)
      | os hr => exact .os (hr.mono (pre_snoc _ _) (fun _ _ x => x) hw)
      | _ => simp [AV.plain] at hp) (by simp))
  refine ⟨_, _, _, _, .inl hrun, hB.put (some t) (.d (.op os.length 0)) _ none (fun s hs => by cases hs; exact hd) (.d (.op 0 (by simp [hlen]))) (fun s hs => absurd hs not_hasLoc_d) (fun sz xs e => by cases e) (by simp), ?_⟩
  refine (stp_allocH (o := .cells vs) (x := .cells cs e) (ow := (fun x i => if x = w.heap.size then (if i = 0 then ob else none) else g.owM x i)) h.m hos hm0 (fun y i c hc => ?_)).trans (Stp.same (fun b hb => ?_) rfl)
  · split at hc
    · split at hc
      · exact .inl (hob c hc)
      · cases hc
    · exact hm0.mine c (.inr (.inl ⟨y, i, hc⟩))
  · rcases mine_put hb with hb | hb
    · exact .inl hb
    · cases hb

theorem snd_allocH (h : RS E g oT st a w) (hd : ∀ t, o.dst = some t → t < a.tmps.size) {e : TypeId} {z : DV} (hz : zeroP E.P e = some z)
    (hop : o.op = .alloc e) (hF : opF ⟨o.dst, .alloc z.cells true, gd⟩ st = some st') : Res E (execOp a.eval o) g oT st.hp a w o.dst st' := by
  simp only [opF] at hF
  split at hF
  · rename_i t ht
    simp only [if_true, Option.map_eq_some_iff] at hF
    obtain ⟨p, hs1, rfl⟩ := hF
    obtain ⟨os, hos, rfl⟩ := pushH_eq hs1
    obtain ⟨zv, hz1, hz2⟩ := run_zero (w := w) hz
    obtain ⟨c1, c2, c3⟩ := cells_rep (ofC_rep hz2 g.ρ g.I w)
    rw [ht]
    refine obj_core (.refl _ _ _ _) h (hd t ht) hos (vs := z.cells.map .d) (cs := zv.cells) (ob := none) ⟨by simpa using c1, ?_, by simp⟩ (by simp [AV.plain]) (by simp) e ?_
    · intro i c v hi hc
      simp only [List.getElem?_map, Option.map_eq_some_iff] at hi
      obtain ⟨c', hc', rfl⟩ := hi
      have hr := c2 i c' v hc' hc
      have ho := c3 c' (List.mem_of_getElem? hc')
      exact ⟨.d hr, ho, one_rep hr ho, fun s hs => absurd hs not_hasLoc_d, fun _ _ e => by cases e⟩
    · simp only [execOp, hop, Instr.alloc, Sem.run_bind, hz1, Result.andThen_ok, newVar, newRow, run_newObj_alloc, Sem.run_pure]
  · cases hF

theorem snd_boxH (h : RS E g oT st a w) (hd : ∀ t, o.dst = some t → t < a.tmps.size) {e : TypeId} {n : Nat} {x : Operand} {xv : XV} (hx : opnd x = some xv)
    (hop : o.op = .box e x) (hF : opF ⟨o.dst, .box n xv true, gd⟩ st = some st') : Res E (execOp a.eval o) g oT st.hp a w o.dst st' := by
  simp only [opF] at hF
  split at hF
  · rename_i t ht
    split at hF
    · rename_i vs s1 hv
      simp only [if_true] at hF
      split at hF
      · rename_i hpl
        simp only [Option.map_eq_some_iff] at hF
        obtain ⟨p, hs2, rfl⟩ := hF
        obtain ⟨oT1, ob, hr, ⟨q1, q2, q3, q4⟩, hl, hok, hob, hst⟩ := valCells_spec h hx hv
        obtain ⟨os, hos, rfl⟩ := pushH_eq hs2
        rw [ht]
        refine obj_core (st := s1) (by rw [q3]; exact hst) hr (hd t ht) hos (cs := (a.eval x).cells) (ob := ob) ⟨hok.len, fun i c v hi hc => ?_, fun b hb => by rw [q3]; exact hok.own b hb⟩ hpl hob e ?_
        · obtain ⟨r1, r2, r3, r4, r5⟩ := hok.rep i c v hi hc
          exact ⟨r1, r2, r3, fun s hs => by rw [q1]; exact r4 s hs, r5⟩
        · simp only [execOp, hop, Instr.box, Sem.run_bind, Result.andThen_ok, newVar, newRow, run_newObj_alloc, Sem.run_pure]
      · cases hF
    · cases hF
  · cases hF

theorem snd_mkm (h : RS E g oT st a w) (hd : ∀ t, o.dst = some t → t < a.tmps.size) {e : TypeId}
    (hop : o.op = .makeMap e none) (hF : opF ⟨o.dst, .mkm false, gd⟩ st = some st') : Res E (execOp a.eval o) g oT st.hp a w o.dst st' := by
  simp only [opF] at hF
  split at hF
  · rename_i t ht
    simp only [Bool.false_eq_true, if_false, Option.map_eq_some_iff] at hF
    obtain ⟨s1, hs1, rfl⟩ := hF
    obtain ⟨h1, rfl⟩ := pushB_eq hs1
    obtain ⟨f, fs, hfs⟩ := h.fs_cons
    rw [ht]
    have hlt : ∀ x i c, g.owM x i = some c → x < w.heap.size := fun x i c hc => (h.m.new x (h.m.own x i c hc).1).2.1
    have hno : ∀ i c, g.owM w.heap.size i ≠ some c := fun i c hc => by have := hlt _ i c hc; omega
    have hB := h.allocB h1 (.map [] 0) (.map #[] 0) f fs hfs g.owM (fun _ _ _ => rfl) (fun i c hc => absurd hc (hno i c)) (fun i j c hi _ => absurd hi (hno i c))
      ⟨#[], heap_alloc_new w _, rfl, by simp⟩ (fun cs e => by cases e)
    have hrun : (execOp a.eval o).run E.P w = .ok (.value (.map (some w.heap.size))) (w.alloc (.map #[] 0)) := by
      simp only [execOp, hop, Instr.makeMap, Option.map_none, Sem.run_bind, Sem.run_pure, Result.andThen_ok, run_newObj_alloc]
    refine ⟨_, _, _, _, .inl hrun, hB.put (some t) (.mb (.loc t)) _ none (fun s hs => by cases hs; exact hd t ht) (.mb (by simp [resB, lkN])) ?_ (fun sz xs e => by cases e) (by simp), ?_⟩
    · intro s hs
      cases hs with | mb hs =>
      simp only [Ref.locs, List.mem_singleton] at hs
      subst hs
      simp [frGet_frIns h1]
    · refine (stp_allocB (x := .map #[] 0) (ow := g.owM) h.m f fs hfs (.refl g oT st.hp w) (fun y i c hc => .inl (.inr (.inl ⟨y, i, hc⟩)))).trans (Stp.same (fun b hb => ?_) rfl)
      rcases mine_put hb with hb | hb
      · exact .inl hb
      · cases hb
  · cases hF

theorem snd_mkmH (h : RS E g oT st a w) (hd : ∀ t, o.dst = some t → t < a.tmps.size) {e : TypeId}
    (hop : o.op = .makeMap e none) (hF : opF ⟨o.dst, .mkm true, gd⟩ st = some st') : Res E (execOp a.eval o) g oT st.hp a w o.dst st' := by
  simp only [opF] at hF
  split at hF
  · rename_i t ht
    simp only [if_true, Option.map_eq_some_iff] at hF
    obtain ⟨p, hs1, rfl⟩ := hF
    obtain ⟨os, hos, rfl⟩ := pushH_eq hs1
    have hlen : os.length = g.ρ.length := h.m.hlen os hos
    rw [ht]
    have hlt : ∀ x i c, g.owM x i = some c → x < w.heap.size := fun x i c hc => (h.m.new x (h.m.own x i c hc).1).2.1
    have hno : ∀ i c, g.owM w.heap.size i ≠ some c := fun i c hc => by have := hlt _ i c hc; omega
    have hB := h.allocH hos (.map [] 0) (.map #[] 0) g.owM (fun _ _ _ => rfl) (fun i c hc => absurd hc (hno i c)) (fun i j c hi _ => absurd hi (hno i c))
      ⟨#[], heap_alloc_new w _, rfl, by simp⟩
    have hrun : (execOp a.eval o).run E.P w = .ok (.value (.map (some w.heap.size))) (w.alloc (.map #[] 0)) := by
      simp only [execOp, hop, Instr.makeMap, Option.map_none, Sem.run_bind, Sem.run_pure, Result.andThen_ok, run_newObj_alloc]
    refine ⟨_, _, _, _, .inl hrun, hB.put (some t) (.d (.mo os.length)) _ none (fun s hs => by cases hs; exact hd t ht) (.d (.mo (by simp [hlen]))) (fun s hs => absurd hs not_hasLoc_d) (fun sz xs e => by cases e) (by simp), ?_⟩
    refine (stp_allocH (o := .map [] 0) (x := .map #[] 0) (ow := g.owM) h.m hos (.refl g oT st.hp w) (fun y i c hc => .inl (.inr (.inl ⟨y, i, hc⟩)))).trans (Stp.same (fun b hb => ?_) rfl)
    rcases mine_put hb with hb | hb
    · exact .inl hb
    · cases hb
  · cases hF

end
end Go.Px

/- What one operation does: loads and stores. -/
namespace Go.Px
section
variable {E : Env} {g : Gh} {oT : Nat → Option Nat} {st st' : St} {a : Act} {w : World} {o : Oper} {gd : Option (Nat × Bool)}

theorem liftL_len (l : List AV) : (AV.liftL l).length = l.length := by
  induction l with
  | nil => rfl
  | cons a l ih => simp [AV.liftL, ih]

theorem liftL_get (l : List AV) (j : Nat) : (AV.liftL l)[j]? = (l[j]?).map AV.lift := by
  induction l generalizing j with
  | nil => simp [AV.liftL]
  | cons a l ih => cases j <;> simp [AV.liftL, ih]

theorem RepA.lift {ρ : List Nat} {I : Nat → Nat → Prop} {fs : List (List (Nat × Nat))} {v : AV} {x : Value} (h : RepA ρ I w fs v x) (f : List (Nat × Nat)) : RepA ρ I w (f :: fs) v.lift x := by
  induction h with
  | d h => exact .d h
  | os h => exact .os h
  | bp off h => exact .bp off h
  | mb h => exact .mb h
  | it h => exact .it h
  | fn hl _ ih =>
    refine .fn (by rw [liftL_len]; exact hl) fun j c v h1 h2 => ?_
    rw [liftL_get] at h1
    simp only [Option.map_eq_some_iff] at h1
    obtain ⟨c', h1, rfl⟩ := h1
    exact ih j c' v h1 h2
  | tup hl _ ih =>
    refine .tup (by rw [liftL_len]; exact hl) fun j c v h1 h2 => ?_
    rw [liftL_get] at h1
    simp only [Option.map_eq_some_iff] at h1
    obtain ⟨c', h1, rfl⟩ := h1
    exact ih j c' v h1 h2
  | dead x => exact .dead x

theorem lift_noloc {ρ : List Nat} {I : Nat → Nat → Prop} {fs : List (List (Nat × Nat))} {v : AV} {x : Value} (h : RepA ρ I w fs v x) (s : Nat) : ¬ HasLoc v.lift s := by
  induction h with
  | d h => exact not_hasLoc_d
  | os h => exact not_hasLoc_os
  | bp off h => intro hh; cases hh with | bp _ hh => simp [Ref.locs] at hh
  | mb h => intro hh; cases hh with | mb hh => simp [Ref.locs] at hh
  | it h => intro hh; cases hh with | it hh => simp [Ref.locs] at hh
  | fn hl _ ih =>
    intro hh
    cases hh with | fn hc hh =>
    obtain ⟨j, hj⟩ := List.getElem?_of_mem hc
    rw [liftL_get] at hj
    simp only [Option.map_eq_some_iff] at hj
    obtain ⟨c', hj, rfl⟩ := hj
    have hlt := (List.getElem?_eq_some_iff.1 hj).1
    exact ih j c' _ hj (Array.getElem?_eq_getElem (by omega)) hh
  | tup hl _ ih =>
    intro hh
    cases hh with | tup hc hh =>
    obtain ⟨j, hj⟩ := List.getElem?_of_mem hc
    rw [liftL_get] at hj
    simp only [Option.map_eq_some_iff] at hj
    obtain ⟨c', hj, rfl⟩ := hj
    have hlt := (List.getElem?_eq_some_iff.1 hj).1
    exact ih j c' _ hj (Array.getElem?_eq_getElem (by omega)) hh
  | dead x => intro hh; cases hh

theorem lift_one (v : AV) : v.lift.one = v.one := by cases v <;> rfl

theorem lift_os {v : AV} {sz : Nat} {xs : List DV} (h : v.lift = .os sz xs) : v = .os sz xs := by cases v <;> simp_all [AV.lift]

theorem liftR_one : ∀ (r : Ref) (v : AV), (liftR r v).one = v.one := by
  intro r
  induction r with
  | loc s => intro v; rfl
  | up r ih => intro v; simp only [liftR, lift_one, ih]

theorem liftR_os : ∀ {r : Ref} {v : AV} {sz : Nat} {xs : List DV}, liftR r v = .os sz xs → v = .os sz xs := by
  intro r
  induction r with
  | loc s => intro v sz xs h; exact h
  | up r ih => intro v sz xs h; exact ih (lift_os h)

theorem liftR_rep {ρ : List Nat} {I : Nat → Nat → Prop} : ∀ {r : Ref} {fs : List (List (Nat × Nat))} {b : Nat}, resB fs r = some b → ∀ {v : AV} {x : Value}, RepA ρ I w (lvl fs r) v x → RepA ρ I w fs (liftR r v) x := by
  intro r
  induction r with
  | loc s => intro fs b h v x hr; cases fs <;> exact hr
  | up r ih =>
    intro fs b h v x hr
    cases fs with
    | nil => simp [resB] at h
    | cons f fs => exact (ih (fs := fs) h hr).lift f

/-- What is read. -/
theorem rd_spec (h : RS E g oT st a w) {n : Nat} {v : AV} {x : Value} {cs : List AV} (hr : RepA g.ρ g.I w g.fs v x) (hc : rdCells st n v = some cs) :
    ∃ (b k : Nat) (us : List Value), x = .pointer (some ⟨b, k, none⟩) ∧ cs.length = n ∧ us.length = n ∧ (∀ (j : Nat) u, us[j]? = some u → w.cell? ⟨b, k + j, none⟩ = some u) ∧
      (∀ (j : Nat) c u, cs[j]? = some c → us[j]? = some u → RepA g.ρ g.I w g.fs c u ∧ c.one = true ∧ ∀ s, HasLoc c s → frGet st.bx s ≠ none) ∧
      ∀ l u sz xs, locOf v = some l → us[0]? = some u → cs[0]? = some (.os sz xs) → (∀ a' : Act, CpOk g st.hp a' w u l) ∧ ∀ r off, l = .c r off → ∀ s ∈ r.locs, frGet st.bx s ≠ none := by
  cases v with
  | bp r off =>
    simp only [rdCells] at hc
    cases hr with | @bp _ b _ hb =>
    split at hc
    · rename_i cs0 hg
      split at hc
      · rename_i hle
        simp only [Option.some.injEq] at hc; subst hc
        obtain ⟨b', hb', hok⟩ := h.m.con (.fr r) _ hg
        have e : b' = b := by have : resB g.fs r = some b' := hb'; rw [hb] at this; exact (Option.some.inj this).symm
        subst e
        obtain ⟨arr, t, k1, k2, k3⟩ := hok
        have hl : (((cs0.drop off).take n)).length = n := by simp; omega
        refine ⟨b', off, (arr.toList.drop off).take n, rfl, by rw [List.length_map]; exact hl, by simp; omega, ?_, ?_, ?_⟩
        · intro j u hu
          rw [List.getElem?_take] at hu
          split at hu
          · simp only [List.getElem?_drop, Array.getElem?_toList] at hu
            simp only [World.cell?, k1, Option.isSome_none, Bool.false_eq_true, if_false, hu]
          · cases hu
        · intro j c u hj hu
          simp only [List.getElem?_map, Option.map_eq_some_iff] at hj
          obtain ⟨c', hj, rfl⟩ := hj
          rw [List.getElem?_take] at hj hu
          split at hj
          · rename_i hjn
            rw [if_pos hjn] at hu
            simp only [List.getElem?_drop, Array.getElem?_toList] at hj hu
            obtain ⟨u', u1, u2, u3, u4⟩ := k3 (off + j) c' hj
            rw [hu] at u1; cases u1
            refine ⟨liftR_rep hb u2, by rw [liftR_one]; exact u3, fun s hs => ?_⟩
            cases r with
            | loc s0 => exact h.clB s0 cs0 hg c' (List.mem_of_getElem? hj) s hs
            | up r => 
              cases hfs : g.fs with
              | nil => rw [hfs] at hb; simp [resB] at hb
              | cons f fs =>
                rw [hfs] at u2 hb
                exact absurd hs (lift_noloc (liftR_rep (fs := fs) hb u2) s)
          · cases hj
        · intro l u sz xs hl hu hcs
          cases hl
          have h0 : 0 < n := by
            rcases Nat.eq_zero_or_pos n with h | h
            · subst h; simp at hu
            · exact h
          rw [List.getElem?_take, if_pos h0] at hu
          simp only [List.getElem?_drop, Array.getElem?_toList, Nat.add_zero] at hu
          refine ⟨fun a' => ⟨b', hb, by simp only [World.cell?, k1, Option.isSome_none, Bool.false_eq_true, if_false, hu]⟩, fun r' off' e s hs => ?_⟩
          cases e
          cases r with
          | loc s0 =>
            simp only [Ref.locs, List.mem_singleton] at hs
            subst hs
            have : frGet st.bx s = some (.cells cs0) := hg
            rw [this]; simp
          | up r => simp [Ref.locs] at hs
      · cases hc
    · cases hc
  | d dv =>
   cases dv with
   | op oo off =>
    simp only [rdCells] at hc
    have hr := hr.d_inv
    cases hr with | @op _ b _ hb =>
    split at hc
    · rename_i cs0 hg
      split at hc
      · rename_i hle
        simp only [Option.some.injEq] at hc; subst hc
        obtain ⟨b', hb', hok⟩ := h.m.con (.ob oo) _ hg
        have e : b' = b := by have : g.ρ[oo]? = some b' := hb'; rw [hb] at this; exact (Option.some.inj this).symm
        subst e
        obtain ⟨arr, t, k1, k2, k3⟩ := hok
        refine ⟨b', off, (arr.toList.drop off).take n, rfl, by simp; omega, by simp; omega, ?_, ?_, ?_⟩
        · intro j u hu
          rw [List.getElem?_take] at hu
          split at hu
          · simp only [List.getElem?_drop, Array.getElem?_toList] at hu
            simp only [World.cell?, k1, Option.isSome_none, Bool.false_eq_true, if_false, hu]
          · cases hu
        · intro j c u hj hu
          rw [List.getElem?_take] at hj hu
          split at hj
          · rename_i hjn
            rw [if_pos hjn] at hu
            simp only [List.getElem?_drop, Array.getElem?_toList] at hj hu
            obtain ⟨u', u1, u2, u3, u4⟩ := k3 (off + j) c hj
            rw [hu] at u1; cases u1
            exact ⟨u2.fs_free g.fs, u3, fun s hs => absurd hs (u2.no_loc s)⟩
          · cases hj
        · intro l u sz xs hl hu hcs
          cases hl
          have h0 : 0 < n := by
            rcases Nat.eq_zero_or_pos n with h | h
            · subst h; simp at hu
            · exact h
          rw [List.getElem?_take, if_pos h0] at hu
          simp only [List.getElem?_drop, Array.getElem?_toList, Nat.add_zero] at hu
          refine ⟨fun a' => ⟨?_, b', hb, by simp only [World.cell?, k1, Option.isSome_none, Bool.false_eq_true, if_false, hu]⟩, fun r' off' e => by cases e⟩
          intro e
          rw [e] at hg; simp [hGet] at hg
      · cases hc
    · cases hc
   | ep sz xs i off =>
    simp only [rdCells] at hc
    have hr := hr.d_inv
    split at hc
    · rename_i y hy
      split at hc
      · rename_i hle
        simp only [Option.some.injEq] at hc; subst hc
        cases hr with | @ep _ _ _ b base _ vs z hx hs ho hm hh =>
        rw [hy] at hx; cases hx
        refine ⟨b, base + off, (List.range n).map fun j => vs (off + j), rfl, by simp; omega, by simp, ?_, ?_, ?_⟩
        · intro j u hu
          simp only [List.getElem?_map, Option.map_eq_some_iff] at hu
          obtain ⟨j', hj', rfl⟩ := hu
          have hlt := (List.getElem?_eq_some_iff.1 hj').1
          simp only [List.length_range] at hlt
          rw [List.getElem?_range hlt] at hj'; cases hj'
          rw [Nat.add_assoc]; exact (hm (off + j) (by omega)).1
        · intro j c u hj hu
          simp only [List.getElem?_map, Option.map_eq_some_iff] at hj hu
          obtain ⟨c', hj, rfl⟩ := hj
          obtain ⟨j', hj', rfl⟩ := hu
          have hlt := (List.getElem?_eq_some_iff.1 hj').1
          simp only [List.length_range] at hlt
          rw [List.getElem?_range hlt] at hj'; cases hj'
          rw [List.getElem?_take, if_pos hlt, List.getElem?_drop] at hj
          exact ⟨.d (hh _ _ hj), ho _ (List.mem_of_getElem? hj), fun s hs => absurd hs not_hasLoc_d⟩
        · intro l u sz xs hl; cases hl
      · cases hc
    · cases hc
   | _ => simp [rdCells] at hc
  | _ => simp [rdCells] at hc

theorem snd_load (h : RS E g oT st a w) (hd : ∀ t, o.dst = some t → t < a.tmps.size) {t : TypeId} {x : Operand} {xv : XV} {ag : Bool} {n : Nat} (hag : aggP E.P t = some ag) (hn : szP E.P t = some n) (hx : opnd x = some xv)
    (hc : ag = true ∨ n = 1) (hop : o.op = .load t x) (hF : opF ⟨o.dst, .load ag n xv, gd⟩ st = some st') : Res E (execOp a.eval o) g oT st.hp a w o.dst st' := by
  have hr := ev_rep h hx
  simp only [opF] at hF
  split at hF
  · cases hF
  · rename_i cs hcs
    obtain ⟨b, k, us, hxe, h1, h2, h3, h4, h5⟩ := rd_spec h hr hcs
    have hload : (loadCells ⟨b, k, none⟩ n).run E.P w = .ok us.toArray w := by
      have := run_loadCells_list (P := E.P) w ⟨b, k, none⟩ us (fun j u hu => by rw [addr_add]; exact h3 j u hu)
      rwa [h2] at this
    split at hF
    · rename_i hagt
      simp only [Option.map_eq_some_iff] at hF
      obtain ⟨ds, hds, rfl⟩ := hF
      obtain ⟨d1, d2⟩ := toDL_spec hds
      refine .pure h _ _ (.agg us.toArray) hd ?_ (.d (.agg (by simp [h2, d1, h1]) ?_ ?_)) (fun s hs => absurd hs not_hasLoc_d) (by simp)
      · simp only [execOp, hop, Instr.loadAt, hxe, Instr.sureAddr, Sem.run_bind, Sem.run_pure, Result.andThen_ok, loadVar, run_agg hag, hagt, if_true, run_sz hn, hload]
      · intro c hcm
        obtain ⟨j, hj⟩ := List.getElem?_of_mem hcm
        have hjl := (List.getElem?_eq_some_iff.1 hj).1
        have hcj : cs[j]? = some cs[j] := List.getElem?_eq_getElem (by omega)
        have huj : us[j]? = some us[j] := List.getElem?_eq_getElem (by omega)
        obtain ⟨r1, r2, _⟩ := h4 j _ _ hcj huj
        have := d2 j _ _ hcj hj
        cases hcase : cs[j] with
        | d v => rw [hcase] at this r2; cases this; exact r2
        | os sz xs => rw [hcase] at this; cases this; rfl
        | fn f vs =>
          rw [hcase] at this
          simp only [AV.toD] at this
          split at this
          · cases this; rfl
          · cases this
        | _ => rw [hcase] at this; cases this
      · intro j c v hcj hv
        have hjl := (List.getElem?_eq_some_iff.1 hcj).1
        have hcs' : cs[j]? = some cs[j] := List.getElem?_eq_getElem (by omega)
        obtain ⟨r1, r2, _⟩ := h4 j _ _ hcs' (by simpa using hv)
        exact toD_rep r1 (d2 j _ _ hcs' hcj)
    · rename_i hagf
      have hn1 : n = 1 := hc.resolve_left hagf
      subst hn1
      have hagf' : ag = false := by simpa using hagf
      obtain ⟨u, hu⟩ : ∃ u, us = [u] := List.length_eq_one_iff.1 h2
      subst hu
      have hcell := h3 0 u rfl
      rw [Nat.add_zero] at hcell
      have hrun : (execOp a.eval o).run E.P w = .ok (.value u) w := by
        simp only [execOp, hop, Instr.loadAt, hxe, Instr.sureAddr, Sem.run_bind, Sem.run_pure, Result.andThen_ok, loadVar, run_agg hag, hagf', Bool.false_eq_true, if_false, run_load, hcell]
      split at hF
      · rename_i sz xs
        split at hF
        · rename_i l hl
          simp only [Option.some.injEq] at hF; subst hF
          obtain ⟨r1, r2, r3⟩ := h4 0 _ u rfl rfl
          obtain ⟨c1, c2⟩ := h5 l u sz xs hl rfl rfl
          have hr' : RepD g.ρ g.I w (.sl sz xs) u := by cases r1; assumption
          have hput := h.put o.dst (.d (.sl sz xs)) u none hd (.d hr') (fun s hs => absurd hs not_hasLoc_d) (by simp) (by simp)
          have e1 : (st.put o.dst (.d (.sl sz xs))).hp = st.hp := by cases o.dst <;> rfl
          have e2 : (st.put o.dst (.d (.sl sz xs))).bx = st.bx := by cases o.dst <;> rfl
          refine ⟨_, w, g, _, .inl hrun, hput.addCp _ _ ?_ ?_, ?_⟩
          · intro t' ht'
            rw [Act.put_get a _ _ hd, if_pos ht', e1]
            have := c1 (a.put o.dst u)
            cases l with
            | t m => cases hxx : ev st xv <;> rw [hxx] at hl <;> simp [locOf] at hl; split at hl <;> cases hl
            | c r off => exact this
            | o i off => exact this
          · rw [e2]; exact c2
          · have e : ((st.put o.dst (.d (.sl sz xs))).copied o.dst l).hp = st.hp := by cases o.dst <;> rfl
            rw [e]
            refine Stp.same (fun b hb => ?_) rfl
            rcases mine_put hb with h | h
            · exact .inl h
            · cases h
        · cases hF
      · rename_i v hv
        simp only [Option.some.injEq] at hF; subst hF
        obtain ⟨r1, r2, r3⟩ := h4 0 _ u rfl rfl
        exact .pure h _ _ u hd hrun r1 r3 (fun sz xs e => hv sz xs (by rw [e]))
      · cases hF

end
end Go.Px

/- What one operation does: stores. -/
namespace Go.Px
section
variable {E : Env} {g : Gh} {oT : Nat → Option Nat} {st st' : St} {a : Act} {w : World} {o : Oper} {gd : Option (Nat × Bool)}

def owIn (g : Gh) (b off n : Nat) (ob : Option Nat) : Nat → Nat → Option Nat := fun x i => if x = b ∧ off ≤ i ∧ i < off + n then (if i = off then ob else none) else g.owM x i

theorem store_core {sem : Sem Next} {g0 : Gh} {oT0 : Nat → Option Nat} {h0 : Option (List BObj)} (hm0 : Stp g0 oT0 h0 w g oT st.hp w) (h : RS E g oT st a w) {p : Pl} {cs : List AV} {b off : Nat}
    (hp : plGet st.frs st.hp p = some (.cells cs)) (hb : plB g p = some b) {vs : List AV} {us : Array Value} {ob : Option Nat} (hle : off + vs.length ≤ cs.length)
    (hpl : (∃ s, p = .fr (.loc s)) ∨ vs.all AV.plain = true) (hv : ValOk E g st oT w vs us ob) (hob : ∀ b, ob = some b → Mine g0 oT0 h0 b) (d : Option Nat) (hd : ∀ t, d = some t → t < a.tmps.size)
    (hrun : ∀ w', (storeCells ⟨b, off, none⟩ us.toList).run E.P w = .ok () w' → sem.run E.P w = .ok .skip w') :
    Res E sem g0 oT0 h0 a w d ((st.setP p (.cells (splL cs off vs)) (rmC st.cp)).put d .dead) := by
  obtain ⟨b', hb', hok⟩ := h.m.con p _ hp
  have e : b' = b := by rw [hb] at hb'; exact (Option.some.inj hb').symm
  subst e
  have hmem := plB_mem hp hb
  obtain ⟨arr, t, k1, k2, k3⟩ := hok
  have hul : us.toList.length = vs.length := by simpa using hv.len
  obtain ⟨arr', s1, s2, s3, s4, s5, s6, s7, s8⟩ := setCells_spec b' us.toList off w arr t (0, 0) k1 (by rw [hul]; omega)
  have hget : ∀ {j : Nat}, j < vs.length → ∃ u, us[j]? = some u := fun {j} hj => ⟨_, Array.getElem?_eq_getElem (by rw [hv.len]; exact hj)⟩
  have hst := run_storeCells_cells (P := E.P) b' off us.toList 0 w
    (by intro j hj; simp only [World.cell?, k1, Nat.add_zero, Option.isSome_none, Bool.false_eq_true, if_false]; rw [Array.getElem?_eq_getElem (by omega)]; rfl)
    (by intro j hj; simp only [World.frozen?, k1]; simp)
    (by
      intro u hu
      obtain ⟨j, hj⟩ := List.getElem?_of_mem hu
      have hjl := (List.getElem?_eq_some_iff.1 hj).1
      exact (hv.rep j _ u (List.getElem?_eq_getElem (by omega)) (by simpa using hj)).2.2.1)
  rw [Nat.add_zero] at hst
  generalize hw' : w.setCells b' off us.toList = w' at hst s1 s4 s5 s6 s7 s8
  obtain ⟨l1, l2⟩ := splL_spec cs off vs hle
  have hnb : ∀ c k, g.I c k → c ≠ b' := fun c k hc e => (h.m.new b' hmem).2.2 k (e ▸ hc)
  have hI : ∀ c k, g.I c k → w'.cell? ⟨c, k, none⟩ = w.cell? ⟨c, k, none⟩ := fun c k hc => cell?_of (s4 c (hnb c k hc)) k
  have hU := h.upd (o' := .cells (splL cs off vs)) hp hb w' (owIn g b' off vs.length ob) (rmC st.cp) s5 s4 s6 s7 s8
    (fun x i hx => by simp [owIn, hx])
    (fun i c hi => by
      simp only [owIn, true_and] at hi
      split at hi
      · split at hi
        · obtain ⟨a1, a2, a3, a4, a5⟩ := hv.own c hi
          exact ⟨a1, a3, a4, fun x j _ => a2 x j, a5⟩
        · cases hi
      · obtain ⟨a1, a2, a3, a4⟩ := h.m.own b' i c hi
        exact ⟨a2, a3, a4, fun x j hx hj => hx (h.m.inj b' i x j c hi hj).1.symm, fun t ht => (h.on t c ht).2.1 b' i hi⟩)
    (fun i j c hi hj => by
      simp only [owIn, true_and] at hi hj
      split at hi
      · split at hi
        · split at hj
          · split at hj
            · omega
            · cases hj
          · exact absurd hj ((hv.own c hi).2.1 b' j)
        · cases hi
      · split at hj
        · split at hj
          · exact absurd hi ((hv.own c hj).2.1 b' i)
          · cases hj
        · exact (h.m.inj b' i b' j c hi hj).2)
    (by
      refine ⟨arr', t, s1, by rw [s2, l1, k2], fun i c hi => ?_⟩
      rw [l2] at hi
      split at hi
      · rename_i hin
        obtain ⟨u, hu⟩ := hget (j := i - off) (by omega)
        obtain ⟨r1, r2, r3, r4, r5⟩ := hv.rep _ c u hi hu
        refine ⟨u, by rw [s3, if_pos (by omega)]; simpa using hu, ?_, r2, fun sz xs ec => ?_⟩
        · rcases hpl with ⟨s, hs⟩ | hpl
          · subst hs
            have e : plFs g.fs (.fr (.loc s)) = g.fs := by cases hf : g.fs <;> rfl
            rw [show plFs g.fs (.fr (.loc s)) = g.fs from e]
            exact r1.mono (List.prefix_refl _) (fun _ _ x => x) hI (fun _ _ hr _ => hr)
          · have hpc := List.all_eq_true.1 hpl c (List.mem_of_getElem? hi)
            cases r1 with
            | d hr => exact .d (hr.mono (List.prefix_refl _) (fun _ _ x => x) hI)
            | os hr => exact .os (hr.mono (List.prefix_refl _) (fun _ _ x => x) hI)
            | _ => simp [AV.plain] at hpc
        · obtain ⟨i0, hown⟩ := r5 sz xs ec
          have hio : i = off := by omega
          subst hio
          rw [show ({ g with owM := owIn g b' i vs.length ob } : Gh).owM b' i = ob by simp only [owIn, true_and, if_pos hin, if_true]]
          exact hown.mono fun c hc => ⟨s4 c (fun e => (hv.own c hc).1 (e ▸ hmem)), fun _ x => x⟩
      · rename_i hout
        obtain ⟨v, v1, v2, v3, v4⟩ := k3 i c hi
        refine ⟨v, by rw [s3, if_neg (by omega)]; exact v1, v2.mono (List.prefix_refl _) (fun _ _ x => x) hI (fun _ _ hr _ => hr), v3, fun sz xs ec => ?_⟩
        rw [show ({ g with owM := owIn g b' off vs.length ob } : Gh).owM b' i = g.owM b' i by simp only [owIn]; rw [if_neg (fun hh => hout hh.2)]]
        exact (v4 sz xs ec).mono fun c hc => ⟨s4 c (fun e => (h.m.own b' i c hc).2.1 (e ▸ hmem)), fun _ x => x⟩)
    (fun t l hl => ⟨(mem_rmC hl).1, .inr (.inl (mem_rmC hl).2)⟩)
    (fun s hs cs' ec c hc s' hl => by
      cases ec
      subst hs
      obtain ⟨j, hj⟩ := List.getElem?_of_mem hc
      rw [l2] at hj
      split at hj
      · obtain ⟨u, hu⟩ := hget (j := j - off) (by omega)
        exact (hv.rep _ c u hj hu).2.2.2.1 s' hl
      · exact h.clB s cs hp c (List.mem_of_getElem? hj) s' hl)
  refine ⟨undef, w', _, _, .inr ⟨hrun _ hst, rfl⟩, hU.put d .dead undef none hd (.dead _) (fun s hs => by cases hs) (fun sz xs e => by cases e) (by simp), ?_⟩
  have e1 : ((st.setP p (.cells (splL cs off vs)) (rmC st.cp)).put d .dead).hp = (st.setP p (.cells (splL cs off vs)) (rmC st.cp)).hp := by cases d <;> rfl
  rw [e1]
  refine (Stp.upd (ow := owIn g b' off vs.length ob) h.m hp hb hm0 s5 s4 s6 s7 s8 (fun x i c hc => ?_)).trans (Stp.same (fun x hx => ?_) rfl)
  · simp only [owIn] at hc
    split at hc
    · split at hc
      · exact hob c hc
      · cases hc
    · rcases hm0.mine c (.inr (.inl ⟨x, i, hc⟩)) with h' | h'
      · exact h'
      · have := (h.m.own x i c hc).2.2.2; omega
  · rcases mine_put hx with hx | hx
    · exact .inl hx
    · cases hx

theorem snd_store (h : RS E g oT st a w) (hd : ∀ t, o.dst = some t → t < a.tmps.size) {t : TypeId} {x y : Operand} {xv yv : XV} {n : Nat} (hn : szP E.P t = some n) (hx : opnd x = some xv) (hy : opnd y = some yv)
    (hop : o.op = .store t x y) (hF : opF ⟨o.dst, .store n xv yv, gd⟩ st = some st') : Res E (execOp a.eval o) g oT st.hp a w o.dst st' := by
  have hr := ev_rep h hx
  simp only [opF] at hF
  split at hF
  · rename_i vs s1 hv
    simp only [Option.map_eq_some_iff] at hF
    obtain ⟨s2, hw, rfl⟩ := hF
    obtain ⟨oT1, ob, hR, ⟨q1, q2, q3, q4⟩, hl, hok, hob, hst⟩ := valCells_spec h hy hv
    have hfrs : s1.frs = st.frs := by simp [St.frs, q1, q2]
    have hok' : ValOk E g s1 oT1 w vs (a.eval y).cells ob := ⟨hok.len, fun i c v hi hc => by
      obtain ⟨r1, r2, r3, r4, r5⟩ := hok.rep i c v hi hc
      exact ⟨r1, r2, r3, fun s hs => by rw [q1]; exact r4 s hs, r5⟩, fun b hb => by rw [q3]; exact hok.own b hb⟩
    have hst' : Stp g oT st.hp w g oT1 s1.hp w := by rw [q3]; exact hst
    have hsz : ¬ ((a.eval y).cells.size ≠ n) := by rw [hok.len, hl]; simp
    have hrun : ∀ (b off : Nat) w', a.eval x = .pointer (some ⟨b, off, none⟩) → (storeCells ⟨b, off, none⟩ (a.eval y).cells.toList).run E.P w = .ok () w' → (execOp a.eval o).run E.P w = .ok .skip w' := by
      intro b off w' hxe hs
      simp only [execOp, hop, Instr.storeAt, hxe, Instr.sureAddr, Sem.run_bind, Sem.run_pure, Result.andThen_ok, storeVar, run_sz hn, if_neg hsz, hs]
    generalize hxe : a.eval x = ax at hr hrun
    cases hev : ev st xv with
    | bp r off =>
      rw [hev] at hr hw
      simp only [wrCells] at hw
      cases hr with | @bp _ b _ hb =>
      cases r with
      | loc s =>
        split at hw
        · rename_i cs hcs
          by_cases hc : off + vs.length ≤ cs.length
          · simp only [hc, true_and, true_or, if_true, Option.some.injEq] at hw; subst hw
            exact store_core (p := .fr (.loc s)) (b := b) hst' hR hcs hb hc (.inl ⟨s, rfl⟩) hok' hob o.dst hd (fun w' hs => hrun b off w' rfl hs)
          · simp [hc] at hw
        · cases hw
      | up r =>
        split at hw
        · rename_i cs hcs
          by_cases hc : off + vs.length ≤ cs.length ∧ vs.all AV.plain = true
          · obtain ⟨hc1, hc2⟩ := hc
            simp only [hc1, hc2, true_and, or_true, if_true, Option.some.injEq] at hw; subst hw
            exact store_core (p := .fr (.up r)) (b := b) hst' hR hcs hb hc1 (.inr hc2) hok' hob o.dst hd (fun w' hs => hrun b off w' rfl hs)
          · exfalso
            simp only [Bool.false_eq_true, false_or] at hw
            rw [if_neg hc] at hw
            cases hw
        · cases hw
    | d dv =>
      rw [hev] at hr hw
      cases dv with
      | op oo off =>
        simp only [wrCells] at hw
        have hr := hr.d_inv
        cases hr with | @op _ b _ hb =>
        split at hw
        · rename_i cs hcs
          split at hw
          · rename_i hc
            simp only [Option.some.injEq] at hw; subst hw
            exact store_core (p := .ob oo) (b := b) hst' hR hcs hb hc.1 (.inr hc.2) hok' hob o.dst hd (fun w' hs => hrun b off w' rfl hs)
          · cases hw
        · cases hw
      | _ => simp [wrCells] at hw
    | _ => rw [hev] at hw; simp [wrCells] at hw
  · cases hF

end
end Go.Px

