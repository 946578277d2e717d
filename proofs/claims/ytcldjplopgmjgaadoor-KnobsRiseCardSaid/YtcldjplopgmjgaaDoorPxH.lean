/- The abstract machine, a part of it: no statement of the claim's own. -/
import Derived.Test.YtcldjplopgmjgaaDoorPxA

/- The walk's own words: continuations as data, so that a rewriting step never goes under a binder. -/
namespace Go.Px

inductive KF where
  | seq (b : XC) | blk (id : Nat) | lp (ts bs : List Nat) (J : St → Prop)

def ap (E : Env) : List KF → (Exit → St → Prop) → Exit → St → Prop
  | [], Q => Q
  | .seq b :: k, Q => fun e s => match e with | .normal => X E b (ap E k Q) s | _ => ap E k Q e s
  | .blk id :: k, Q => fun e s => match e with | .exit j => if j = id then ap E k Q .normal s else ap E k Q (.exit j) s | _ => ap E k Q e s
  | .lp ts bs J :: k, Q => fun e s => match e with | .normal => (s.res ts bs).ok = true ∧ J (s.res ts bs) | _ => ap E k Q e s

def run (E : Env) (c : XC) (k : List KF) (Q : Exit → St → Prop) (st : St) : Prop := X E c (ap E k Q) st
def runO (E : Env) (l : List XO) (k : List KF) (Q : Exit → St → Prop) (st : St) : Prop := opsX E l (fun s => ap E k Q .normal s.cut) st
def optR (E : Env) (x : Option St) (l : List XO) (k : List KF) (Q : Exit → St → Prop) : Prop := optK x (fun s => runO E l k Q s)
def callR (E : Env) (st : St) (d : Option Nat) (g : FuncId) (as : List AV) (l : List XO) (k : List KF) (Q : Exit → St → Prop) : Prop :=
  CallK E st d g as (fun s => runO E l k Q s)
def cq1 (E : Env) (d : Option Nat) (l : List XO) (k : List KF) (Q : Exit → St → Prop) (st : St) : AV → List Frm → Option (List BObj) → Prop :=
  fun r _ _ => runO E l k Q (st.put d r)
def cq2 (E : Env) (d : Option Nat) (l : List XO) (k : List KF) (Q : Exit → St → Prop) (st : St) : AV → List Frm → Option (List BObj) → Prop :=
  fun r _ H => runO E l k Q ({ st with hp := H, cp := rmO st.cp }.put d r)
def cq3 (E : Env) (d : Option Nat) (l : List XO) (k : List KF) (Q : Exit → St → Prop) (st : St) : AV → List Frm → Option (List BObj) → Prop :=
  fun r U H => match U with
    | b :: u => okSt { st with bx := b, up := u, hp := H, cp := rmC st.cp } = true ∧ runO E l k Q (({ st with bx := b, up := u, hp := H, cp := rmC st.cp }).put d r)
    | [] => False

section
variable {E : Env} {k : List KF} {Q : Exit → St → Prop} {st : St}
@[simp] theorem run_skip : run E .skip k Q st = ap E k Q .normal st := (rfl)
@[simp] theorem run_seq (a b : XC) : run E (.seq a b) k Q st = run E a (.seq b :: k) Q st := (rfl)
@[simp] theorem run_blk (id : Nat) (b : XC) : run E (.block id b) k Q st = run E b (.blk id :: k) Q st := (rfl)
@[simp] theorem run_exit (id : Nat) : run E (.exit id) k Q st = ap E k Q (.exit id) st := (rfl)
@[simp] theorem run_ret : run E .ret k Q st = ap E k Q .ret st := (rfl)
@[simp] theorem run_kp (ts bs : List Nat) (b : XC) : run E (.kp ts bs b) k Q st = ((st.res ts bs).ok = true ∧ run E b k Q (st.res ts bs)) := (rfl)
@[simp] theorem run_reg (ops : List XO) : run E (.reg ops) k Q st = runO E ops k Q st.cut := (rfl)
theorem run_cond (c : XV) (a b : XC) : run E (.cond c a b) k Q st = match ev st c with
    | .d (.b t) => (t = true → run E a k Q st) ∧ (t = false → run E b k Q st)
    | _ => False := (rfl)
@[simp] theorem ap_seq (b : XC) : ap E (.seq b :: k) Q .normal st = run E b k Q st := (rfl)
@[simp] theorem ap_seq_ret (b : XC) : ap E (.seq b :: k) Q .ret st = ap E k Q .ret st := (rfl)
@[simp] theorem ap_seq_exit (b : XC) (j : Nat) : ap E (.seq b :: k) Q (.exit j) st = ap E k Q (.exit j) st := (rfl)
@[simp] theorem ap_blk (id : Nat) : ap E (.blk id :: k) Q .normal st = ap E k Q .normal st := (rfl)
@[simp] theorem ap_blk_ret (id : Nat) : ap E (.blk id :: k) Q .ret st = ap E k Q .ret st := (rfl)
@[simp] theorem ap_blk_exit (id j : Nat) : ap E (.blk id :: k) Q (.exit j) st = if j = id then ap E k Q .normal st else ap E k Q (.exit j) st := (rfl)
@[simp] theorem ap_lp (ts bs : List Nat) (J : St → Prop) : ap E (.lp ts bs J :: k) Q .normal st = ((st.res ts bs).ok = true ∧ J (st.res ts bs)) := (rfl)
@[simp] theorem ap_lp_ret (ts bs : List Nat) (J : St → Prop) : ap E (.lp ts bs J :: k) Q .ret st = ap E k Q .ret st := (rfl)
@[simp] theorem ap_lp_exit (ts bs : List Nat) (J : St → Prop) (j : Nat) : ap E (.lp ts bs J :: k) Q (.exit j) st = ap E k Q (.exit j) st := (rfl)
@[simp] theorem ap_nil (e : Exit) : ap E [] Q e st = Q e st := (rfl)
@[simp] theorem runO_nil : runO E [] k Q st = ap E k Q .normal st.cut := (rfl)
@[simp] theorem runO_mv (d : Option Nat) (l : List XO) (x : XV) : runO E (⟨d, .mv x, none⟩ :: l) k Q st = optR E (opF ⟨d, .mv x, none⟩ st) l k Q := (rfl)
@[simp] theorem runO_asg (d : Option Nat) (l : List XO) (x : XV) : runO E (⟨d, .asg x, none⟩ :: l) k Q st = optR E (opF ⟨d, .asg x, none⟩ st) l k Q := (rfl)
@[simp] theorem runO_pick (d : Option Nat) (l : List XO) (a b c : XV) : runO E (⟨d, .pick a b c, none⟩ :: l) k Q st = optR E (opF ⟨d, .pick a b c, none⟩ st) l k Q := (rfl)
@[simp] theorem runO_alloc (d : Option Nat) (l : List XO) (z : List DV) (h : Bool) : runO E (⟨d, .alloc z h, none⟩ :: l) k Q st = optR E (opF ⟨d, .alloc z h, none⟩ st) l k Q := (rfl)
@[simp] theorem runO_box (d : Option Nat) (l : List XO) (n : Nat) (x : XV) (h : Bool) : runO E (⟨d, .box n x h, none⟩ :: l) k Q st = optR E (opF ⟨d, .box n x h, none⟩ st) l k Q := (rfl)
@[simp] theorem runO_build (d : Option Nat) (l : List XO) (z : List DV) (ps : List (Nat × Nat × XV)) : runO E (⟨d, .build z ps, none⟩ :: l) k Q st = optR E (opF ⟨d, .build z ps, none⟩ st) l k Q := (rfl)
@[simp] theorem runO_bsl (d : Option Nat) (l : List XO) (z : DV) (n : Nat) (ps : List (Nat × XV)) : runO E (⟨d, .bsl z n ps, none⟩ :: l) k Q st = optR E (opF ⟨d, .bsl z n ps, none⟩ st) l k Q := (rfl)
@[simp] theorem runO_load (d : Option Nat) (l : List XO) (ag : Bool) (n : Nat) (a : XV) : runO E (⟨d, .load ag n a, none⟩ :: l) k Q st = optR E (opF ⟨d, .load ag n a, none⟩ st) l k Q := (rfl)
@[simp] theorem runO_store (d : Option Nat) (l : List XO) (n : Nat) (a x : XV) : runO E (⟨d, .store n a x, none⟩ :: l) k Q st = optR E (opF ⟨d, .store n a x, none⟩ st) l k Q := (rfl)
@[simp] theorem runO_nilc (d : Option Nat) (l : List XO) (x : XV) : runO E (⟨d, .nilc x, none⟩ :: l) k Q st = optR E (opF ⟨d, .nilc x, none⟩ st) l k Q := (rfl)
@[simp] theorem runO_bin (d : Option Nat) (l : List XO) (op : BinOp) (x y : XV) : runO E (⟨d, .bin op x y, none⟩ :: l) k Q st = optR E (opF ⟨d, .bin op x y, none⟩ st) l k Q := (rfl)
@[simp] theorem runO_eq (d : Option Nat) (l : List XO) (neg : Bool) (e : EK) (x y : XV) : runO E (⟨d, .eq neg e x y, none⟩ :: l) k Q st = optR E (opF ⟨d, .eq neg e x y, none⟩ st) l k Q := (rfl)
@[simp] theorem runO_un (d : Option Nat) (l : List XO) (op : UnOp) (x : XV) : runO E (⟨d, .un op x, none⟩ :: l) k Q st = optR E (opF ⟨d, .un op x, none⟩ st) l k Q := (rfl)
@[simp] theorem runO_conv (d : Option Nat) (l : List XO) (c : CK) (x : XV) : runO E (⟨d, .conv c x, none⟩ :: l) k Q st = optR E (opF ⟨d, .conv c x, none⟩ st) l k Q := (rfl)
@[simp] theorem runO_mkf (d : Option Nat) (l : List XO) (f : FuncId) (cs : List XV) : runO E (⟨d, .mkf f cs, none⟩ :: l) k Q st = optR E (opF ⟨d, .mkf f cs, none⟩ st) l k Q := (rfl)
@[simp] theorem runO_mks (d : Option Nat) (l : List XO) (z : DV) (n : Nat) (a b : XV) : runO E (⟨d, .mks z n a b, none⟩ :: l) k Q st = optR E (opF ⟨d, .mks z n a b, none⟩ st) l k Q := (rfl)
@[simp] theorem runO_slc (d : Option Nat) (l : List XO) (str : Option Nat) (x : XV) (a b c : Option XV) : runO E (⟨d, .slc str x a b c, none⟩ :: l) k Q st = optR E (opF ⟨d, .slc str x a b c, none⟩ st) l k Q := (rfl)
@[simp] theorem runO_fld (d : Option Nat) (l : List XO) (ag : Bool) (off n : Nat) (x : XV) : runO E (⟨d, .fld ag off n x, none⟩ :: l) k Q st = optR E (opF ⟨d, .fld ag off n x, none⟩ st) l k Q := (rfl)
@[simp] theorem runO_fad (d : Option Nat) (l : List XO) (off : Nat) (x : XV) : runO E (⟨d, .fad off x, none⟩ :: l) k Q st = optR E (opF ⟨d, .fad off x, none⟩ st) l k Q := (rfl)
@[simp] theorem runO_iad (d : Option Nat) (l : List XO) (arr : Option Nat) (n : Nat) (x y : XV) : runO E (⟨d, .iad arr n x y, none⟩ :: l) k Q st = optR E (opF ⟨d, .iad arr n x y, none⟩ st) l k Q := (rfl)
@[simp] theorem runO_idx (d : Option Nat) (l : List XO) (ag : Bool) (len n : Nat) (x y : XV) : runO E (⟨d, .idx ag len n x y, none⟩ :: l) k Q st = optR E (opF ⟨d, .idx ag len n x y, none⟩ st) l k Q := (rfl)
@[simp] theorem runO_idxs (d : Option Nat) (l : List XO) (x y : XV) : runO E (⟨d, .idxs x y, none⟩ :: l) k Q st = optR E (opF ⟨d, .idxs x y, none⟩ st) l k Q := (rfl)
@[simp] theorem runO_ext (d : Option Nat) (l : List XO) (x : XV) (i : Nat) : runO E (⟨d, .ext x i, none⟩ :: l) k Q st = optR E (opF ⟨d, .ext x i, none⟩ st) l k Q := (rfl)
@[simp] theorem runO_len (d : Option Nat) (l : List XO) (n : Nat) (x : XV) : runO E (⟨d, .len n x, none⟩ :: l) k Q st = optR E (opF ⟨d, .len n x, none⟩ st) l k Q := (rfl)
@[simp] theorem runO_app (d : Option Nat) (l : List XO) (sz bytes : Nat) (x y : XV) : runO E (⟨d, .app sz bytes x y, none⟩ :: l) k Q st = optR E (opF ⟨d, .app sz bytes x y, none⟩ st) l k Q := (rfl)
@[simp] theorem runO_mx (d : Option Nat) (l : List XO) (xs : List XV) : runO E (⟨d, .mx xs, none⟩ :: l) k Q st = optR E (opF ⟨d, .mx xs, none⟩ st) l k Q := (rfl)
@[simp] theorem runO_mn (d : Option Nat) (l : List XO) (xs : List XV) : runO E (⟨d, .mn xs, none⟩ :: l) k Q st = optR E (opF ⟨d, .mn xs, none⟩ st) l k Q := (rfl)
@[simp] theorem runO_mkm (d : Option Nat) (l : List XO) (h : Bool) : runO E (⟨d, .mkm h, none⟩ :: l) k Q st = optR E (opF ⟨d, .mkm h, none⟩ st) l k Q := (rfl)
@[simp] theorem runO_lookup (d : Option Nat) (l : List XO) (z : DV) (e : EK) (x y : XV) (ok : Bool) : runO E (⟨d, .lookup z e x y ok, none⟩ :: l) k Q st = optR E (opF ⟨d, .lookup z e x y ok, none⟩ st) l k Q := (rfl)
@[simp] theorem runO_mupd (d : Option Nat) (l : List XO) (e : EK) (a b c : XV) : runO E (⟨d, .mupd e a b c, none⟩ :: l) k Q st = optR E (opF ⟨d, .mupd e a b c, none⟩ st) l k Q := (rfl)
@[simp] theorem runO_del (d : Option Nat) (l : List XO) (e : EK) (a b : XV) : runO E (⟨d, .del e a b, none⟩ :: l) k Q st = optR E (opF ⟨d, .del e a b, none⟩ st) l k Q := (rfl)
theorem runO_g (d : Option Nat) (kk : XK) (t : Nat) (want : Bool) (l : List XO) : runO E (⟨d, kk, some (t, want)⟩ :: l) k Q st =
    match getT st.tm t with
    | .d (.b x) => (x = want → runO E (⟨d, kk, none⟩ :: l) k Q st) ∧ ((!x) = want → runO E l k Q (st.put d (.tup [])))
    | .tup _ => runO E l k Q (st.put d (.tup []))
    | _ => False := by cases kk <;> rfl
theorem runO_call (d : Option Nat) (f : XV) (as : List XV) (l : List XO) : runO E (⟨d, .call f as, none⟩ :: l) k Q st =
    match ev st f with
    | .fn g cs => callR E st d g (as.map (ev st) ++ cs) l k Q
    | .d (.fd g ds) => callR E st d g (as.map (ev st) ++ ds.map .d) l k Q
    | _ => False := (rfl)
@[simp] theorem optR_some (s : St) (l : List XO) : optR E (some s) l k Q = runO E l k Q s := (rfl)
@[simp] theorem optR_none (l : List XO) : optR E none l k Q = False := (rfl)
@[simp] theorem optR_ite {c : Prop} [Decidable c] (s : St) (l : List XO) : optR E (if c then some s else none) l k Q = (c ∧ runO E l k Q s) := by
  by_cases h : c <;> simp [optR, optK, h]
@[simp] theorem cq1_ap (d : Option Nat) (l : List XO) (r : AV) (U : List Frm) (H : Option (List BObj)) : cq1 E d l k Q st r U H = runO E l k Q (st.put d r) := (rfl)
@[simp] theorem cq2_ap (d : Option Nat) (l : List XO) (r : AV) (U : List Frm) (H : Option (List BObj)) : cq2 E d l k Q st r U H = runO E l k Q ({ st with hp := H, cp := rmO st.cp }.put d r) := (rfl)
@[simp] theorem cq3_ap (d : Option Nat) (l : List XO) (r : AV) (b : Frm) (U : List Frm) (H : Option (List BObj)) : cq3 E d l k Q st r (b :: U) H = (okSt { st with bx := b, up := U, hp := H, cp := rmC st.cp } = true ∧ runO E l k Q ({ st with bx := b, up := U, hp := H, cp := rmC st.cp }.put d r)) := (rfl)

theorem callR1 {d : Option Nat} {g : FuncId} {as : List AV} {l : List XO} {ds : List DV} (h : AV.toDL as = some ds) (hc : CA E g (ds.map .d) [] none (cq1 E d l k Q st)) : callR E st d g as l k Q := by
  unfold callR CallK; rw [h]; exact .inl (.inl hc)
theorem callR2 {d : Option Nat} {g : FuncId} {as : List AV} {l : List XO} {ds : List DV} (h : AV.toDL as = some ds) (hc : CA E g (ds.map .d) [] st.hp (cq2 E d l k Q st)) : callR E st d g as l k Q := by
  unfold callR CallK; rw [h]; exact .inl (.inr hc)
theorem callR3 {d : Option Nat} {g : FuncId} {as : List AV} {l : List XO} (hc : CA E g (AV.liftL as) st.frs st.hp (cq3 E d l k Q st)) : callR E st d g as l k Q := by
  unfold callR CallK; exact .inr hc
end

/-! ### Regions that draw their order -/

def runD (E : Env) (j : Nat) (un : List (List Nat)) (l : List XO) (ac : List (Nat × (List ALoc × List ALoc))) (k : List KF) (Q : Exit → St → Prop) (st : St) : Prop :=
  opsD E j un l ac (fun s => ap E k Q .normal s.cut) st
def optD (E : Env) (x : Option St) (a : List ALoc × List ALoc) (j : Nat) (un : List (List Nat)) (l : List XO) (ac : List (Nat × (List ALoc × List ALoc))) (k : List KF) (Q : Exit → St → Prop) : Prop :=
  optK x (fun s => runD E (j + 1) un.tail l ((j, a) :: ac) k Q s)
def callDR (E : Env) (st : St) (d : Option Nat) (g : FuncId) (as : List AV) (j : Nat) (un : List (List Nat)) (l : List XO) (ac : List (Nat × (List ALoc × List ALoc))) (k : List KF) (Q : Exit → St → Prop) : Prop :=
  callD E d (okD un ac) (fun a s => runD E (j + 1) un.tail l ((j, a) :: ac) k Q s) st g as

section
variable {E : Env} {j : Nat} {un : List (List Nat)} {ac : List (Nat × (List ALoc × List ALoc))} {k : List KF} {Q : Exit → St → Prop} {st : St}
@[simp] theorem run_draw (un : List (List Nat)) (ops : List XO) : run E (.draw un ops) k Q st = runD E 0 un ops [] k Q st.cut := (rfl)
@[simp] theorem runD_nil : runD E j un [] ac k Q st = ap E k Q .normal st.cut := (rfl)
@[simp] theorem optD_some (s : St) (a : List ALoc × List ALoc) (l : List XO) : optD E (some s) a j un l ac k Q = runD E (j + 1) un.tail l ((j, a) :: ac) k Q s := (rfl)
@[simp] theorem optD_none (a : List ALoc × List ALoc) (l : List XO) : optD E none a j un l ac k Q = False := (rfl)
@[simp] theorem optD_ite {c : Prop} [Decidable c] (s : St) (a : List ALoc × List ALoc) (l : List XO) : optD E (if c then some s else none) a j un l ac k Q = (c ∧ runD E (j + 1) un.tail l ((j, a) :: ac) k Q s) := by
  by_cases h : c <;> simp [optD, optK, h]
theorem runD_g (d : Option Nat) (kk : XK) (t : Nat) (want : Bool) (l : List XO) : runD E j un (⟨d, kk, some (t, want)⟩ :: l) ac k Q st =
    match getT st.tm t with
    | .d (.b x) => (x = want → runD E j un (⟨d, kk, none⟩ :: l) ac k Q st) ∧ ((!x) = want → okD un ac ([], dstLoc d) = true ∧ runD E (j + 1) un.tail l ((j, ([], dstLoc d)) :: ac) k Q (st.put d (.tup [])))
    | .tup _ => okD un ac ([], dstLoc d) = true ∧ runD E (j + 1) un.tail l ((j, ([], dstLoc d)) :: ac) k Q (st.put d (.tup []))
    | _ => False := by cases kk <;> rfl
theorem runD_call (d : Option Nat) (f : XV) (as : List XV) (l : List XO) : runD E j un (⟨d, .call f as, none⟩ :: l) ac k Q st =
    match ev st f with
    | .fn g cs => callDR E st d g (as.map (ev st) ++ cs) j un l ac k Q
    | .d (.fd g ds) => callDR E st d g (as.map (ev st) ++ ds.map .d) j un l ac k Q
    | _ => False := (rfl)
@[simp] theorem runD_mv (d : Option Nat) (l : List XO) (x : XV) : runD E j un (⟨d, .mv x, none⟩ :: l) ac k Q st = (okD un ac (accOf st ⟨d, .mv x, none⟩) = true ∧ optD E (opF ⟨d, .mv x, none⟩ st) (accOf st ⟨d, .mv x, none⟩) j un l ac k Q) := (rfl)
@[simp] theorem runD_asg (d : Option Nat) (l : List XO) (x : XV) : runD E j un (⟨d, .asg x, none⟩ :: l) ac k Q st = (okD un ac (accOf st ⟨d, .asg x, none⟩) = true ∧ optD E (opF ⟨d, .asg x, none⟩ st) (accOf st ⟨d, .asg x, none⟩) j un l ac k Q) := (rfl)
@[simp] theorem runD_pick (d : Option Nat) (l : List XO) (a b c : XV) : runD E j un (⟨d, .pick a b c, none⟩ :: l) ac k Q st = (okD un ac (accOf st ⟨d, .pick a b c, none⟩) = true ∧ optD E (opF ⟨d, .pick a b c, none⟩ st) (accOf st ⟨d, .pick a b c, none⟩) j un l ac k Q) := (rfl)
@[simp] theorem runD_alloc (d : Option Nat) (l : List XO) (z : List DV) (h : Bool) : runD E j un (⟨d, .alloc z h, none⟩ :: l) ac k Q st = (okD un ac (accOf st ⟨d, .alloc z h, none⟩) = true ∧ optD E (opF ⟨d, .alloc z h, none⟩ st) (accOf st ⟨d, .alloc z h, none⟩) j un l ac k Q) := (rfl)
@[simp] theorem runD_box (d : Option Nat) (l : List XO) (n : Nat) (x : XV) (h : Bool) : runD E j un (⟨d, .box n x h, none⟩ :: l) ac k Q st = (okD un ac (accOf st ⟨d, .box n x h, none⟩) = true ∧ optD E (opF ⟨d, .box n x h, none⟩ st) (accOf st ⟨d, .box n x h, none⟩) j un l ac k Q) := (rfl)
@[simp] theorem runD_build (d : Option Nat) (l : List XO) (z : List DV) (ps : List (Nat × Nat × XV)) : runD E j un (⟨d, .build z ps, none⟩ :: l) ac k Q st = (okD un ac (accOf st ⟨d, .build z ps, none⟩) = true ∧ optD E (opF ⟨d, .build z ps, none⟩ st) (accOf st ⟨d, .build z ps, none⟩) j un l ac k Q) := (rfl)
@[simp] theorem runD_bsl (d : Option Nat) (l : List XO) (z : DV) (n : Nat) (ps : List (Nat × XV)) : runD E j un (⟨d, .bsl z n ps, none⟩ :: l) ac k Q st = (okD un ac (accOf st ⟨d, .bsl z n ps, none⟩) = true ∧ optD E (opF ⟨d, .bsl z n ps, none⟩ st) (accOf st ⟨d, .bsl z n ps, none⟩) j un l ac k Q) := (rfl)
@[simp] theorem runD_load (d : Option Nat) (l : List XO) (ag : Bool) (n : Nat) (a : XV) : runD E j un (⟨d, .load ag n a, none⟩ :: l) ac k Q st = (okD un ac (accOf st ⟨d, .load ag n a, none⟩) = true ∧ optD E (opF ⟨d, .load ag n a, none⟩ st) (accOf st ⟨d, .load ag n a, none⟩) j un l ac k Q) := (rfl)
@[simp] theorem runD_store (d : Option Nat) (l : List XO) (n : Nat) (a x : XV) : runD E j un (⟨d, .store n a x, none⟩ :: l) ac k Q st = (okD un ac (accOf st ⟨d, .store n a x, none⟩) = true ∧ optD E (opF ⟨d, .store n a x, none⟩ st) (accOf st ⟨d, .store n a x, none⟩) j un l ac k Q) := (rfl)
@[simp] theorem runD_nilc (d : Option Nat) (l : List XO) (x : XV) : runD E j un (⟨d, .nilc x, none⟩ :: l) ac k Q st = (okD un ac (accOf st ⟨d, .nilc x, none⟩) = true ∧ optD E (opF ⟨d, .nilc x, none⟩ st) (accOf st ⟨d, .nilc x, none⟩) j un l ac k Q) := (rfl)
@[simp] theorem runD_bin (d : Option Nat) (l : List XO) (op : BinOp) (x y : XV) : runD E j un (⟨d, .bin op x y, none⟩ :: l) ac k Q st = (okD un ac (accOf st ⟨d, .bin op x y, none⟩) = true ∧ optD E (opF ⟨d, .bin op x y, none⟩ st) (accOf st ⟨d, .bin op x y, none⟩) j un l ac k Q) := (rfl)
@[simp] theorem runD_eq (d : Option Nat) (l : List XO) (neg : Bool) (e : EK) (x y : XV) : runD E j un (⟨d, .eq neg e x y, none⟩ :: l) ac k Q st = (okD un ac (accOf st ⟨d, .eq neg e x y, none⟩) = true ∧ optD E (opF ⟨d, .eq neg e x y, none⟩ st) (accOf st ⟨d, .eq neg e x y, none⟩) j un l ac k Q) := (rfl)
@[simp] theorem runD_un (d : Option Nat) (l : List XO) (op : UnOp) (x : XV) : runD E j un (⟨d, .un op x, none⟩ :: l) ac k Q st = (okD un ac (accOf st ⟨d, .un op x, none⟩) = true ∧ optD E (opF ⟨d, .un op x, none⟩ st) (accOf st ⟨d, .un op x, none⟩) j un l ac k Q) := (rfl)
@[simp] theorem runD_conv (d : Option Nat) (l : List XO) (c : CK) (x : XV) : runD E j un (⟨d, .conv c x, none⟩ :: l) ac k Q st = (okD un ac (accOf st ⟨d, .conv c x, none⟩) = true ∧ optD E (opF ⟨d, .conv c x, none⟩ st) (accOf st ⟨d, .conv c x, none⟩) j un l ac k Q) := (rfl)
@[simp] theorem runD_mkf (d : Option Nat) (l : List XO) (f : FuncId) (cs : List XV) : runD E j un (⟨d, .mkf f cs, none⟩ :: l) ac k Q st = (okD un ac (accOf st ⟨d, .mkf f cs, none⟩) = true ∧ optD E (opF ⟨d, .mkf f cs, none⟩ st) (accOf st ⟨d, .mkf f cs, none⟩) j un l ac k Q) := (rfl)
@[simp] theorem runD_mks (d : Option Nat) (l : List XO) (z : DV) (n : Nat) (a b : XV) : runD E j un (⟨d, .mks z n a b, none⟩ :: l) ac k Q st = (okD un ac (accOf st ⟨d, .mks z n a b, none⟩) = true ∧ optD E (opF ⟨d, .mks z n a b, none⟩ st) (accOf st ⟨d, .mks z n a b, none⟩) j un l ac k Q) := (rfl)
@[simp] theorem runD_slc (d : Option Nat) (l : List XO) (str : Option Nat) (x : XV) (a b c : Option XV) : runD E j un (⟨d, .slc str x a b c, none⟩ :: l) ac k Q st = (okD un ac (accOf st ⟨d, .slc str x a b c, none⟩) = true ∧ optD E (opF ⟨d, .slc str x a b c, none⟩ st) (accOf st ⟨d, .slc str x a b c, none⟩) j un l ac k Q) := (rfl)
@[simp] theorem runD_fld (d : Option Nat) (l : List XO) (ag : Bool) (off n : Nat) (x : XV) : runD E j un (⟨d, .fld ag off n x, none⟩ :: l) ac k Q st = (okD un ac (accOf st ⟨d, .fld ag off n x, none⟩) = true ∧ optD E (opF ⟨d, .fld ag off n x, none⟩ st) (accOf st ⟨d, .fld ag off n x, none⟩) j un l ac k Q) := (rfl)
@[simp] theorem runD_fad (d : Option Nat) (l : List XO) (off : Nat) (x : XV) : runD E j un (⟨d, .fad off x, none⟩ :: l) ac k Q st = (okD un ac (accOf st ⟨d, .fad off x, none⟩) = true ∧ optD E (opF ⟨d, .fad off x, none⟩ st) (accOf st ⟨d, .fad off x, none⟩) j un l ac k Q) := (rfl)
@[simp] theorem runD_iad (d : Option Nat) (l : List XO) (arr : Option Nat) (n : Nat) (x y : XV) : runD E j un (⟨d, .iad arr n x y, none⟩ :: l) ac k Q st = (okD un ac (accOf st ⟨d, .iad arr n x y, none⟩) = true ∧ optD E (opF ⟨d, .iad arr n x y, none⟩ st) (accOf st ⟨d, .iad arr n x y, none⟩) j un l ac k Q) := (rfl)
@[simp] theorem runD_idx (d : Option Nat) (l : List XO) (ag : Bool) (len n : Nat) (x y : XV) : runD E j un (⟨d, .idx ag len n x y, none⟩ :: l) ac k Q st = (okD un ac (accOf st ⟨d, .idx ag len n x y, none⟩) = true ∧ optD E (opF ⟨d, .idx ag len n x y, none⟩ st) (accOf st ⟨d, .idx ag len n x y, none⟩) j un l ac k Q) := (rfl)
@[simp] theorem runD_idxs (d : Option Nat) (l : List XO) (x y : XV) : runD E j un (⟨d, .idxs x y, none⟩ :: l) ac k Q st = (okD un ac (accOf st ⟨d, .idxs x y, none⟩) = true ∧ optD E (opF ⟨d, .idxs x y, none⟩ st) (accOf st ⟨d, .idxs x y, none⟩) j un l ac k Q) := (rfl)
@[simp] theorem runD_ext (d : Option Nat) (l : List XO) (x : XV) (i : Nat) : runD E j un (⟨d, .ext x i, none⟩ :: l) ac k Q st = (okD un ac (accOf st ⟨d, .ext x i, none⟩) = true ∧ optD E (opF ⟨d, .ext x i, none⟩ st) (accOf st ⟨d, .ext x i, none⟩) j un l ac k Q) := (rfl)
@[simp] theorem runD_len (d : Option Nat) (l : List XO) (n : Nat) (x : XV) : runD E j un (⟨d, .len n x, none⟩ :: l) ac k Q st = (okD un ac (accOf st ⟨d, .len n x, none⟩) = true ∧ optD E (opF ⟨d, .len n x, none⟩ st) (accOf st ⟨d, .len n x, none⟩) j un l ac k Q) := (rfl)
@[simp] theorem runD_app (d : Option Nat) (l : List XO) (sz bytes : Nat) (x y : XV) : runD E j un (⟨d, .app sz bytes x y, none⟩ :: l) ac k Q st = (okD un ac (accOf st ⟨d, .app sz bytes x y, none⟩) = true ∧ optD E (opF ⟨d, .app sz bytes x y, none⟩ st) (accOf st ⟨d, .app sz bytes x y, none⟩) j un l ac k Q) := (rfl)
@[simp] theorem runD_mx (d : Option Nat) (l : List XO) (xs : List XV) : runD E j un (⟨d, .mx xs, none⟩ :: l) ac k Q st = (okD un ac (accOf st ⟨d, .mx xs, none⟩) = true ∧ optD E (opF ⟨d, .mx xs, none⟩ st) (accOf st ⟨d, .mx xs, none⟩) j un l ac k Q) := (rfl)
@[simp] theorem runD_mn (d : Option Nat) (l : List XO) (xs : List XV) : runD E j un (⟨d, .mn xs, none⟩ :: l) ac k Q st = (okD un ac (accOf st ⟨d, .mn xs, none⟩) = true ∧ optD E (opF ⟨d, .mn xs, none⟩ st) (accOf st ⟨d, .mn xs, none⟩) j un l ac k Q) := (rfl)
@[simp] theorem runD_mkm (d : Option Nat) (l : List XO) (h : Bool) : runD E j un (⟨d, .mkm h, none⟩ :: l) ac k Q st = (okD un ac (accOf st ⟨d, .mkm h, none⟩) = true ∧ optD E (opF ⟨d, .mkm h, none⟩ st) (accOf st ⟨d, .mkm h, none⟩) j un l ac k Q) := (rfl)
@[simp] theorem runD_lookup (d : Option Nat) (l : List XO) (z : DV) (e : EK) (x y : XV) (ok : Bool) : runD E j un (⟨d, .lookup z e x y ok, none⟩ :: l) ac k Q st = (okD un ac (accOf st ⟨d, .lookup z e x y ok, none⟩) = true ∧ optD E (opF ⟨d, .lookup z e x y ok, none⟩ st) (accOf st ⟨d, .lookup z e x y ok, none⟩) j un l ac k Q) := (rfl)
@[simp] theorem runD_mupd (d : Option Nat) (l : List XO) (e : EK) (a b c : XV) : runD E j un (⟨d, .mupd e a b c, none⟩ :: l) ac k Q st = (okD un ac (accOf st ⟨d, .mupd e a b c, none⟩) = true ∧ optD E (opF ⟨d, .mupd e a b c, none⟩ st) (accOf st ⟨d, .mupd e a b c, none⟩) j un l ac k Q) := (rfl)
@[simp] theorem runD_del (d : Option Nat) (l : List XO) (e : EK) (a b : XV) : runD E j un (⟨d, .del e a b, none⟩ :: l) ac k Q st = (okD un ac (accOf st ⟨d, .del e a b, none⟩) = true ∧ optD E (opF ⟨d, .del e a b, none⟩ st) (accOf st ⟨d, .del e a b, none⟩) j un l ac k Q) := (rfl)

/-- A call in such a region, with its arguments alone: what it gives is told whole. -/
theorem callD1 {d : Option Nat} {g : FuncId} {as : List AV} {l : List XO} {ds : List DV} (v : AV) (h : AV.toDL as = some ds) (hok : okD un ac ([], dstLoc d) = true) (hc : CA E g (ds.map .d) [] none (fun r _ _ => r = v))
    (hk : runD E (j + 1) un.tail l ((j, ([], dstLoc d)) :: ac) k Q (st.put d v)) : callDR E st d g as j un l ac k Q := by
  unfold callDR callD; rw [h]; exact .inl ⟨hok, v, hc, hk⟩
/-- .. with the objects. -/
theorem callD2 {d : Option Nat} {g : FuncId} {as : List AV} {l : List XO} {ds : List DV} (v : AV) (H' : Option (List BObj)) (h : AV.toDL as = some ds) (hok : okD un ac ([.hp], dstLoc d ++ [.hp, .fct]) = true) (hc : CA E g (ds.map .d) [] st.hp (fun r _ H => r = v ∧ H = H'))
    (hk : runD E (j + 1) un.tail l ((j, ([.hp], dstLoc d ++ [.hp, .fct])) :: ac) k Q ({ st with hp := H', cp := rmC st.cp }.put d v)) : callDR E st d g as j un l ac k Q := by
  unfold callDR callD; rw [h]; exact .inr (.inl ⟨hok, v, H', hc, hk⟩)
theorem callD3 {d : Option Nat} {g : FuncId} {as : List AV} {l : List XO} {ds : List DV} (v : AV) (h : AV.toDL as = some ds) (hok : okD un ac ([.hp], dstLoc d ++ [.fct]) = true) (hc : CA E g (ds.map .d) [] st.hp (fun r _ H => r = v ∧ H = st.hp))
    (hk : runD E (j + 1) un.tail l ((j, ([.hp], dstLoc d ++ [.fct])) :: ac) k Q ({ st with cp := rmC st.cp }.put d v)) : callDR E st d g as j un l ac k Q := by
  unfold callDR callD; rw [h]; exact .inr (.inr ⟨hok, v, hc, hk⟩)
end

/-! ### A loop -/

/-- A loop, by what is kept: a measure falls. -/
theorem run_loop {E : Env} {k : List KF} {Q : Exit → St → Prop} {st : St} {ts bs : List Nat} {b : XC} (J : Nat → St → Prop) (n : Nat) (hok : (st.res ts bs).ok = true) (h0 : J n (st.res ts bs))
    (hr : ∀ n s, J n s → run E b (.lp ts bs (fun s' => ∃ m, m < n ∧ J m s') :: k) Q s) : run E (.loop ts bs b) k Q st := by
  refine ⟨hok, J, ⟨n, h0⟩, fun n s hJ => ?_⟩
  have := hr n s hJ
  unfold run at this
  exact this

/-- A function's end. -/
def fin (res : List XR) (Q : AV → List Frm → Option (List BObj) → Prop) : Exit → St → Prop := fun e s => match e with
    | .normal => resK s res fun r => Q r s.up s.hp
    | .ret => resK s res fun r => Q r s.up s.hp
    | _ => False
@[simp] theorem fin_ret (res : List XR) (Q : AV → List Frm → Option (List BObj) → Prop) (s : St) : fin res Q .ret s = resK s res fun r => Q r s.up s.hp := (rfl)
@[simp] theorem fin_normal (res : List XR) (Q : AV → List Frm → Option (List BObj) → Prop) (s : St) : fin res Q .normal s = resK s res fun r => Q r s.up s.hp := (rfl)
theorem FX_eq (E : Env) (x : XF) (args : List AV) (U : List Frm) (H : Option (List BObj)) (Q : AV → List Frm → Option (List BObj) → Prop) :
    FX E x args U H Q = run E x.body [] (fin x.res Q) { tm := numT 0 args, bx := [], up := U, hp := H, cp := [] } := (rfl)

attribute [simp] runD_g runD_call okD clash accGet accOf accK dstLoc ownLoc lostLoc newLoc addrLoc refLoc run_cond runO_g runO_call opF St.cut St.put St.lose St.copied ev owned getT setT AV.strip rmT rmC rmO inCp cpGet
  St.pushB St.pushH frGet frSet frIns refGet refSet St.frs St.setFrs hGet hSet liftR AV.lift AV.liftL AV.toD AV.toDL
  binV binI binS eqC eqL eqD eqA unV convV rdCells wrCells valCells splL cellAt setAt locOf partD bldD bslD listOf appX intOf foldI mxI mnI sliceX optI
  mapAt mapSet DV.cells AV.plain AV.okIn AV.okInL keepL inL bxOk tmOk St.res St.ok okSt frmDom numT resK resOf allSome List.replicate FX_eq

end Go.Px

