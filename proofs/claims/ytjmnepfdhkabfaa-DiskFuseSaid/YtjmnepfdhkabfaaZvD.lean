/- The engine, part 4: the rules of evaluation, for simp. -/
import Derived.Test.YtjmnepfdhkabfaaZvC
namespace Go.Zv
set_option autoImplicit false
noncomputable def K (E : FuncId → Option AFn) (c : ACode) (s : St) : Option Out := Run E (.code c s)
noncomputable def pc (E : FuncId → Option AFn) (f : FuncId) (args : List LV) : Option LV := pureCall (Run E) f args
def expK (O : Heap) (vs : List LV) : Option LV := exportV O (tuple1 vs)
def fnK (res : List ARes) : Out → Option LV
  | .ex .nrm s => (resultsL s res).bind (expK s.O)
  | .ex .ret s => (resultsL s res).bind (expK s.O)
  | _ => none
def primK (r : LV) : Option LV := exportV [] r
noncomputable def callK (E : FuncId → Option AFn) (args : List LV) : AFn → Option LV
  | .code res body => (K E body ⟨numArgs 0 args, [], [], 0⟩).bind (fnK res)
  | .prim g => (g args).bind primK
section
variable {E : FuncId → Option AFn}
theorem pc_eq (f : FuncId) (args : List LV) : pc E f args = (E f).bind (callK E args) := by
  unfold pc pureCall callK K
  rw [Run_eq]
  simp only [step]
  cases E f with
  | none => rfl
  | some fn =>
    cases fn with
    | code res body =>
      simp only [Option.bind_some, fnBeg]
      cases Run E (.code body ⟨numArgs 0 args, [], [], 0⟩) with
      | none => rfl
      | some o =>
        simp only [Option.bind_some]
        cases o with
        | res v F O => rfl
        | ex e s => cases e <;> simp only [fnK, fnEnd, endFn] <;> (try rfl) <;> cases resultsL s res <;> rfl
    | prim g => simp only [Option.bind_some, fnBeg]; cases g args <;> rfl
theorem callK_eq (args : List LV) (res : List ARes) (body : ACode) : callK E args (.code res body) = (K E body ⟨numArgs 0 args, [], [], 0⟩).bind (fnK res) := rfl
theorem callK_prim (args : List LV) (g) : callK E args (.prim g) = (g args).bind primK := rfl
theorem primK_eq (r : LV) : primK r = exportV [] r := rfl
theorem fnK_nrm (res : List ARes) (s : St) : fnK res (.ex .nrm s) = (resultsL s res).bind (expK s.O) := rfl
theorem fnK_ret (res : List ARes) (s : St) : fnK res (.ex .ret s) = (resultsL s res).bind (expK s.O) := rfl
theorem expK_1 (O : Heap) (v : LV) : expK O [v] = exportV O v := rfl
theorem expK_2 (O : Heap) (v w : LV) (l : List LV) : expK O (v :: w :: l) = exportV O (.tup (v :: w :: l)) := rfl
theorem expK_0 (O : Heap) : expK O [] = exportV O (.tup []) := rfl

theorem K_skip (s : St) : K E .skip s = some (.ex .nrm s) := by unfold K; rw [Run_eq]; rfl
theorem K_reg (q ops mask drop) (s : St) : K E (.reg q ops mask drop) s = (runQ (Run E) ops s q).bind (regR mask drop) := by unfold K; rw [Run_eq]; rfl
noncomputable def seqK (E : FuncId → Option AFn) (b : ACode) : Out → Option Out := seqR (Run E) b
theorem K_seq (a b) (s : St) : K E (.seq a b) s = (K E a s).bind (seqK E b) := by unfold K; rw [Run_eq]; rfl
theorem seqK_nrm (b) (s : St) : seqK E b (.ex .nrm s) = K E b s := rfl
theorem seqK_ret (b) (s : St) : seqK E b (.ex .ret s) = some (.ex .ret s) := rfl
theorem seqK_exit (b i) (s : St) : seqK E b (.ex (.exit i) s) = some (.ex (.exit i) s) := rfl
theorem K_cond (c a b) (s : St) : K E (.cond c a b) s = condR (K E a s) (K E b s) (c.ev s.T) := by unfold K; rw [Run_eq]; rfl
theorem condR_bool (x y : Option Out) (t : Bool) : condR x y (.bool t) = if t = true then x else y := rfl
theorem K_block (id b mask drop) (s : St) : K E (.block id b mask drop) s = (K E b s).bind (blockR id mask drop) := by unfold K; rw [Run_eq]; rfl
theorem blockR_nrm (id mask drop) (s : St) : blockR id mask drop (.ex .nrm s) = some (.ex .nrm (endReg mask drop s)) := rfl
theorem blockR_ret (id mask drop) (s : St) : blockR id mask drop (.ex .ret s) = some (.ex .ret s) := rfl
theorem blockR_exit (id mask drop i) (s : St) : blockR id mask drop (.ex (.exit i) s) = if i = id then some (.ex .nrm (endReg mask drop s)) else some (.ex (.exit i) s) := rfl
noncomputable def loopK (E : FuncId → Option AFn) (b : ACode) (mask : Option (List Nat)) (drop : List Nat) : Out → Option Out := loopR (Run E) b mask drop
theorem K_loop (b mask drop) (s : St) : K E (.loop b mask drop) s = (K E b s).bind (loopK E b mask drop) := by unfold K; rw [Run_eq]; rfl
noncomputable def loopF (E : FuncId → Option AFn) (L : ACode) (mask : Option (List Nat)) (drop : List Nat) : Out → Option Out
  | .ex .nrm s => K E L (endReg mask drop s)
  | .ex e s => some (.ex e s)
  | .res .. => none
theorem loop_fold {L b : ACode} {mask : Option (List Nat)} {drop : List Nat} (h : L = .loop b mask drop) (s : St) : K E L s = (K E b s).bind (loopF E L mask drop) := by
  subst h
  rw [K_loop]
  refine congrArg (fun f => (K E b s).bind f) (funext fun o => ?_)
  cases o with
  | res v F O => rfl
  | ex e s => cases e <;> rfl
theorem loopF_nrm (L mask drop) (s : St) : loopF E L mask drop (.ex .nrm s) = K E L (endReg mask drop s) := rfl
theorem loopF_ret (L mask drop) (s : St) : loopF E L mask drop (.ex .ret s) = some (.ex .ret s) := rfl
theorem loopF_exit (L mask drop i) (s : St) : loopF E L mask drop (.ex (.exit i) s) = some (.ex (.exit i) s) := rfl
theorem loopK_nrm (b mask drop) (s : St) : loopK E b mask drop (.ex .nrm s) = K E (.loop b mask drop) (endReg mask drop s) := rfl
theorem loopK_ret (b mask drop) (s : St) : loopK E b mask drop (.ex .ret s) = some (.ex .ret s) := rfl
theorem loopK_exit (b mask drop i) (s : St) : loopK E b mask drop (.ex (.exit i) s) = some (.ex (.exit i) s) := rfl
theorem K_scope (b) (s : St) : K E (.scope b) s = K E b s := by unfold K; rw [Run_eq]; rfl
theorem K_exit (id) (s : St) : K E (.exit id) s = some (.ex (.exit id) s) := by unfold K; rw [Run_eq]; rfl
theorem K_ret (s : St) : K E .ret s = some (.ex .ret s) := by unfold K; rw [Run_eq]; rfl
theorem callClosed_run (T : Env) (F : List Env) (O : Heap) (lvl : Nat) (fz id f args) (c : List LV) : callClosed (Run E) fz id f args ⟨T, F, O, lvl⟩ c =
    if LV.closeds c = true then (pc E f c).bind (afterPure fz id (LV.idss args) ⟨T, F, O, lvl⟩)
    else (Run E (.fn f args (lvl + 1) (T :: F) O)).bind (afterIn lvl) := rfl
theorem bind_ite {α β : Type} {c : Prop} [Decidable c] (x y : Option α) (k : α → Option β) : (if c then x else y).bind k = if c then x.bind k else y.bind k := by
  split <;> rfl

section
variable (R : Orc) (l : List AOper) (T : Env) (F : List Env) (O : Heap) (lvl : Nat) (s : St)
theorem runOps_nil : runOps R [] s = some s := rfl
theorem runOps_cons (o : AOper) : runOps R (o :: l) s = (wanted s.T o.grd).bind (grdK R o (runOps R l) s) := rfl
theorem grdK_eq (d : Option Nat) (op g) (k : St → Option St) (b : Bool) : grdK R ⟨d, op, g, true⟩ k s b =
    if b = true then (stepOp R true (d.getD 0) op s).bind (putK k d) else k (putT d .undef s) := by
  simp only [grdK]
  cases stepOp R true (d.getD 0) op s <;> rfl
theorem grdK_f (d : Option Nat) (op g) (k : St → Option St) (b : Bool) : grdK R ⟨d, op, g, false⟩ k s b =
    if b = true then ((stepOp R true (d.getD 0) op s).bind (closeV false)).bind (putK k d) else k (putT d .undef s) := rfl
theorem closeV_f (v : LV) : closeV false (v, s) = closeV1 s (LV.ids v) (LV.cl s.O v) := rfl
theorem closeV1_eq (ids v) : closeV1 s ids v = if LV.closed v = true then some (v, St.frees ids s) else none := rfl
theorem putK_eq (k : St → Option St) (d : Option Nat) (v : LV) : putK k d (v, s) = k (putT d v s) := rfl
theorem putT_some (d : Nat) (v : LV) : putT (some d) v ⟨T, F, O, lvl⟩ = ⟨(d, v) :: T, F, O, lvl⟩ := rfl
theorem putT_none (v : LV) : putT none v s = s := rfl
theorem wanted_none : wanted T none = some true := rfl
theorem wanted_some (t : Nat) (b : Bool) : wanted T (some (t, b)) = wantV b (tget T t) := rfl
theorem wantV_bool (b c : Bool) : wantV b (.bool c) = some (c == b) := rfl
theorem wantV_undef (b : Bool) : wantV b .undef = some false := rfl
theorem tget_nil (n : Nat) : tget [] n = .any := rfl
theorem tget_cons (k n : Nat) (v : LV) (r : Env) : tget ((k, v) :: r) n = if k = n then v else tget r n := rfl
theorem oget_nil (n : Nat) : oget [] n = none := rfl
theorem oget_cons (k n : Nat) (v : Obj) (r : Heap) : oget ((k, v) :: r) n = if k = n then some v else oget r n := rfl
theorem oset_cons (k n : Nat) (v o : Obj) (r : Heap) : oset ((k, v) :: r) n o = if k = n then (k, o) :: r else (k, v) :: oset r n o := rfl
theorem odel_nil (n : Nat) : odel [] n = [] := rfl
theorem odel_cons (k n : Nat) (v : Obj) (r : Heap) : odel ((k, v) :: r) n = if k = n then odel r n else (k, v) :: odel r n := rfl
theorem ev_t (n : Nat) : Opd.ev T (.t n) = tget T n := rfl
theorem ev_c (v : LV) : Opd.ev T (.c v) = v := rfl
theorem ev_fu (f : FuncId) : Opd.ev T (.fu f) = .fn (.func f) [] [] := rfl
theorem evs_nil : evs T [] = [] := rfl
theorem evs_cons (x : Opd) (l : List Opd) : evs T (x :: l) = x.ev T :: evs T l := rfl
theorem ok1_eq (v : LV) : ok1 s v = some (v, s) := rfl
theorem okU_eq : okU s = some (.undef, s) := rfl
-- regions that draw
theorem runQ_none (ops) : runQ R ops s none = runOps R ops s := rfl
theorem runQ_some (ops q) : runQ R ops s (some q) = runD R (q.zip ops) (dropK (dsts ops) s) := rfl
theorem zip_cons {α β : Type} (a : α) (b : β) (l m) : (a :: l).zip (b :: m) = (a, b) :: l.zip m := rfl
theorem zip_nil {α β : Type} : ([] : List α).zip ([] : List β) = [] := rfl
theorem dsts_nil : dsts [] = [] := rfl
theorem dsts_some (d : Nat) (op g fz) : dsts (⟨some d, op, g, fz⟩ :: l) = d :: dsts l := rfl
theorem dsts_none (op g fz) : dsts (⟨none, op, g, fz⟩ :: l) = dsts l := rfl
theorem runD_nil : runD R [] s = some s := rfl
theorem runD_cons (q) (o : AOper) (m : List (Chk × AOper)) : runD R ((q, o) :: m) s = (wanted s.T o.grd).bind (grdD R q o (runD R m) s) := rfl
theorem grdD_eq (q) (d : Option Nat) (op g fz) (k : St → Option St) (b : Bool) : grdD R q ⟨d, op, g, fz⟩ k s b =
    if b = true then (chkOp R q fz (d.getD 0) op s).bind (putK k d) else k (putT d .undef s) := rfl
theorem chkOp_free (d op) : chkOp R .free true d op s = stepOp R true d op s := by
  simp only [chkOp]
  cases stepOp R true d op s <;> rfl
theorem chkOp_freeF (d op) : chkOp R .free false d op s = (stepOp R true d op s).bind (closeV false) := rfl
theorem chkOp_dr (un qs d op) : chkOp R (.dr un qs) true d op s = dOp R un qs d op s := rfl
theorem chkOp_drF (un qs d op) : chkOp R (.dr un qs) false d op s = dOpF R un qs d op s := rfl
theorem filtO_nil (un) : filtO lvl un [] = [] := rfl
theorem filtO_cons (un k v) : filtO lvl un ((k, v) :: O) = if un.contains (k / 256 - lvl * 4096) = true then filtO lvl un O else (k, v) :: filtO lvl un O := rfl
theorem dNew_eq (id o v) : dNew id o v s = putO (oget s.O id) (some (v, St.push id o s)) := rfl
theorem putO_none (k) : putO none k = k := rfl
theorem dRows_nil (id) : dRows id [] s = some ([], s) := rfl
theorem dRows_cons (id v) (l : List LV) : dRows id (v :: l) s = if isNils v = true then dRowsK id (nilSt v) (dRows (id + 1) l) s (oget s.O id) else (dRows (id + 1) l s).map (consC v) := rfl
theorem dRowsK_none (id st k) : dRowsK id st k s none = (k (St.push id (.row st []) s)).map (consC (.bs id 0 0)) := rfl
theorem dBox_eq (id) (z : List LV) : dBox id z s = if z.all LV.one = true ∧ z.length < 200 then (dRows (id + 1) z s).bind (dBoxK id) else none := rfl
theorem dBoxK_eq (id cs) : dBoxK id (cs, s) = dNew id (.box cs) (.ptr id 0) s := rfl
theorem dBsl_eq (id st n xs) : dBsl id st n s xs = if (xs.all fun x => LV.closeds x && x.all LV.one) = true then dNew id (.row st xs) (.bs id 0 n) s else none := rfl
theorem dImp_tup (id vs) : dImp id s (.tup vs) = if vs.length < 200 then (dImps id vs s).map dTup else none := rfl
theorem dImp_agg (id l) : dImp id s (.agg l) = some (.agg l, s) := rfl
theorem dImp1_agg (id l) : dImp1 id s (.agg l) = some (.agg l, s) := rfl
theorem dImp_int (id k n) : dImp id s (.int k n) = some (.int k n, s) := rfl
theorem dImp1_int (id k n) : dImp1 id s (.int k n) = some (.int k n, s) := rfl
theorem dImp_bool (id b) : dImp id s (.bool b) = some (.bool b, s) := rfl
theorem dImp1_bool (id b) : dImp1 id s (.bool b) = some (.bool b, s) := rfl
theorem dImp_str (id b) : dImp id s (.str b) = some (.str b, s) := rfl
theorem dImp1_str (id b) : dImp1 id s (.str b) = some (.str b, s) := rfl
theorem dImp_vs (id b) : dImp id s (.vs b) = some (.vs b, s) := rfl
theorem dImp1_vs (id b) : dImp1 id s (.vs b) = some (.vs b, s) := rfl
theorem dImp_fn (id a b c) : dImp id s (.fn a b c) = some (.fn a b c, s) := rfl
theorem dImp1_fn (id a b c) : dImp1 id s (.fn a b c) = some (.fn a b c, s) := rfl
theorem dImp_nilf (id ) : dImp id s (.nilf) = some (.nilf, s) := rfl
theorem dImp1_nilf (id ) : dImp1 id s (.nilf) = some (.nilf, s) := rfl
theorem dImp_nul (id ) : dImp id s (.nul) = some (.nul, s) := rfl
theorem dImp1_nul (id ) : dImp1 id s (.nul) = some (.nul, s) := rfl
theorem dImp_emp (id ) : dImp id s (.emp) = some (.emp, s) := rfl
theorem dImp1_emp (id ) : dImp1 id s (.emp) = some (.emp, s) := rfl
theorem dImp_undef (id ) : dImp id s (.undef) = some (.undef, s) := rfl
theorem dImp1_undef (id ) : dImp1 id s (.undef) = some (.undef, s) := rfl
theorem dImp_nilp (id ) : dImp id s (.nilp) = some (.nilp, s) := rfl
theorem dImp1_nilp (id ) : dImp1 id s (.nilp) = some (.nilp, s) := rfl
theorem dImp_nilm (id ) : dImp id s (.nilm) = some (.nilm, s) := rfl
theorem dImp1_nilm (id ) : dImp1 id s (.nilm) = some (.nilm, s) := rfl
theorem dImp_any (id ) : dImp id s (.any) = some (.any, s) := rfl
theorem dImp1_any (id ) : dImp1 id s (.any) = some (.any, s) := rfl
theorem dImp_fp (id b) : dImp id s (.fp b) = some (.fp b, s) := rfl
theorem dImp1_fp (id b) : dImp1 id s (.fp b) = some (.fp b, s) := rfl
theorem dImp_os (id st xs) : dImp id s (.os st xs) = dNew id (.row st xs) (.bs id 0 xs.length) s := rfl
theorem dImp1_os (id st xs) : dImp1 id s (.os st xs) = dNew id (.row st xs) (.bs id 0 xs.length) s := rfl
theorem dImps_nil (id) : dImps id [] s = some ([], s) := rfl
theorem dImps_cons (id v) (l : List LV) : dImps id (v :: l) s = (dImp1 id s v).bind (dImpsK (dImps (id + 1) l)) := rfl
theorem dImpsK_eq (k v) : dImpsK k (v, s) = (k s).map (consC v) := rfl
theorem dTup_eq (r) : dTup (r, s) = (.tup r, s) := rfl
theorem dAfter_eq (id b r) : dAfter id b s r = if (b || LV.noVs r) = true then dImp id s r else none := rfl
theorem dCall_run (E) (id f b) (c : List LV) : dCall (Run E) id f b s c = if LV.closeds c = true then (pc E f c).bind (dAfter id b s) else none := rfl
theorem dCal_eq (id args f first cap) : dCal R id s O args (.fn (.func f) first cap) = dCall R id f (LV.idss (first ++ (args ++ cap))).isEmpty s (LV.cls O (first ++ (args ++ cap))) := rfl
theorem dSetBox_eq (id off cs bs) : dSetBox id off s cs (some (.box bs)) = if off + cs.length ≤ bs.length then okU { s with O := oset s.O id (.box (setAt bs off cs)) } else none := rfl
theorem dSetRow_eq (id i off cs st xs) : dSetRow id i off s cs (some (.row st xs)) = dSetElt id st i off s xs cs xs[i]? := rfl
theorem dSetElt_eq (id st i off xs cs y) : dSetElt id st i off s xs cs (some y) = if off + cs.length ≤ y.length then okU { s with O := oset s.O id (.row st (xs.set i (setAt y off cs))) } else none := rfl
theorem apartId_ptr (id j o) : apartId id (.ptr j o) = (j != id) := rfl
theorem apartId_ep (id j i o) : apartId id (.ep j i o) = (j != id) := rfl
theorem apartId_fp (id cs) : apartId id (.fp cs) = true := rfl
theorem apartQs_nil (id) : apartQs T id [] = true := rfl
theorem apartQs_cons (id q l) : apartQs T id (q :: l) = (apartId id (tget T q) && apartQs T id l) := rfl
theorem dStore_ptr (T : Env) (F : List Env) (U O : Heap) (lvl : Nat) (qs cs id off) : dStore ⟨T, F, U, lvl⟩ O qs cs (.ptr id off) = if inSlot lvl qs id = true then dSetBox id off ⟨T, F, U, lvl⟩ cs (oget O id) else none := rfl
theorem inSlot_eq (qs id) : inSlot lvl qs id = (qs.isEmpty || qs.contains (id / 256 - lvl * 4096)) := rfl
theorem dStore_ep (T : Env) (F : List Env) (U O : Heap) (lvl : Nat) (qs cs id i off) : dStore ⟨T, F, U, lvl⟩ O qs cs (.ep id i off) = if inSlot lvl qs id = true then dSetRow id i off ⟨T, F, U, lvl⟩ cs (oget O id) else none := rfl
theorem apartV_ptr (qs id o) : apartV T qs (.ptr id o) = apartQs T id qs := rfl
theorem apartV_ep (qs id i o) : apartV T qs (.ep id i o) = apartQs T id qs := rfl
theorem apartV_fp (qs cs) : apartV T qs (.fp cs) = true := rfl
theorem dMks_int (id z k n k' m) : dMks id z s (.int k n) (.int k' m) = if 0 ≤ n ∧ n ≤ m ∧ m ≤ 1000000000 ∧ LV.closeds (LV.cls [] z) = true ∧ (LV.cls [] z).all LV.one = true then
      dNew id (.row z.length (List.replicate n.toNat (LV.cls [] z))) (.bs id 0 n.toNat) s else none := rfl
section
variable (un qs : List Nat) (d : Nat)
theorem do_as (x) : dOp R un qs d (.as x) s = ok1 s (x.ev s.T) := rfl
theorem do_alloc (T : Env) (F : List Env) (O : Heap) (lvl : Nat) (z) : dOp R un qs d (.alloc z) ⟨T, F, O, lvl⟩ = dBox (oid lvl d) z ⟨T, F, O, lvl⟩ := rfl
theorem do_box (T : Env) (F : List Env) (O : Heap) (lvl : Nat) (x) : dOp R un qs d (.box x) ⟨T, F, O, lvl⟩ = dBox (oid lvl d) (x.ev T).cells ⟨T, F, O, lvl⟩ := rfl
theorem do_bsl (T : Env) (F : List Env) (O : Heap) (lvl : Nat) (st n z ps) : dOp R un qs d (.bsl st n z ps) ⟨T, F, O, lvl⟩ = if z.length = st then (fillS st T ps (List.replicate n z)).bind (dBsl (oid lvl d) st n ⟨T, F, O, lvl⟩) else none := rfl
theorem do_store (T : Env) (F : List Env) (O : Heap) (lvl : Nat) (n x v) : dOp R un qs d (.store n x v) ⟨T, F, O, lvl⟩ = if (v.ev T).cells.length = n ∧ (v.ev T).cells.all LV.one = true ∧ LV.closeds (v.ev T).cells = true then dStore ⟨T, F, O, lvl⟩ (filtO lvl un O) qs (v.ev T).cells (x.ev T) else none := rfl
theorem do_mks (T : Env) (F : List Env) (O : Heap) (lvl : Nat) (st z a b) : dOp R un qs d (.mks st z a b) ⟨T, F, O, lvl⟩ = dMks (oid lvl d) z ⟨T, F, O, lvl⟩ (a.ev T) (b.ev T) := rfl
theorem do_call (T : Env) (F : List Env) (O : Heap) (lvl : Nat) (f args) : dOp R un qs d (.call f args) ⟨T, F, O, lvl⟩ = dCall R (oid lvl d) f (LV.idss (evs T args)).isEmpty ⟨T, F, O, lvl⟩ (LV.cls (filtO lvl un O) (evs T args)) := rfl
theorem do_cal (T : Env) (F : List Env) (O : Heap) (lvl : Nat) (f args) : dOp R un qs d (.cal f args) ⟨T, F, O, lvl⟩ = dCal R (oid lvl d) ⟨T, F, O, lvl⟩ (filtO lvl un O) (evs T args) (f.ev T) := rfl
theorem do_mv (x) : dOp R un qs d (.mv x) s = ok1 s (x.ev s.T) := rfl
theorem do_pick (c a b) : dOp R un qs d (.pick c a b) s = (pickV (a.ev s.T) (b.ev s.T) (c.ev s.T)).bind (ok1 s) := rfl
theorem do_build (z ps) : dOp R un qs d (.build z ps) s = ((fill s.T ps z).bind aggK).bind (ok1 s) := rfl
theorem do_load (T : Env) (F : List Env) (O : Heap) (lvl : Nat) (ag n x) : dOp R un qs d (.load ag n x) ⟨T, F, O, lvl⟩ = if qs.isEmpty = true ∨ apartV T qs (x.ev T) = true then (rd (filtO lvl un O) ag n (x.ev T)).bind (ok1 ⟨T, F, O, lvl⟩) else none := rfl
theorem do_nilc (x) : dOp R un qs d (.nilc x) s = (nilcV (x.ev s.T)).bind (ok1 s) := rfl
theorem do_bin (op x y) : dOp R un qs d (.bin op x y) s = (bin op (x.ev s.T) (y.ev s.T)).bind (ok1 s) := rfl
theorem do_bib (neg x y) : dOp R un qs d (.bib neg x y) s = (bibV neg (x.ev s.T) (y.ev s.T)).bind (ok1 s) := rfl
theorem do_eqa (neg ks x y) : dOp R un qs d (.eqa neg ks x y) s = (eqaV neg ks (x.ev s.T) (y.ev s.T)).bind (ok1 s) := rfl
theorem do_un (op x) : dOp R un qs d (.un op x) s = (unV op (x.ev s.T)).bind (ok1 s) := rfl
theorem do_conv (k x) : dOp R un qs d (.conv k x) s = (convV k (x.ev s.T)).bind (ok1 s) := rfl
theorem do_b2s (T : Env) (F : List Env) (O : Heap) (lvl : Nat) (x) : dOp R un qs d (.b2s x) ⟨T, F, O, lvl⟩ = ((elems (filtO lvl un O) (x.ev T)).bind b2sK).bind (ok1 ⟨T, F, O, lvl⟩) := rfl
theorem do_mkf (f first cap) : dOp R un qs d (.mkf f first cap) s = ok1 s (.fn f (evs s.T first) (evs s.T cap)) := rfl
theorem do_sls (T : Env) (F : List Env) (O : Heap) (lvl : Nat) (st x lo hi) : dOp R un qs d (.sls st x lo hi) ⟨T, F, O, lvl⟩ = (slsV T (filtO lvl un O) st lo hi (x.ev T)).bind (ok1 ⟨T, F, O, lvl⟩) := rfl
theorem do_slt (x lo hi) : dOp R un qs d (.slt x lo hi) s = (sltV s.T lo hi (x.ev s.T)).bind (ok1 s) := rfl
theorem do_sla (n st x lo hi) : dOp R un qs d (.sla n st x lo hi) s = (slaV s.T n st lo hi (x.ev s.T)).bind (ok1 s) := rfl
theorem do_fad (off x) : dOp R un qs d (.fad off x) s = (fadV off (x.ev s.T)).bind (ok1 s) := rfl
theorem do_fld (ag off n x) : dOp R un qs d (.fld ag off n x) s = (fldV ag off n (x.ev s.T)).bind (ok1 s) := rfl
theorem do_ias (T : Env) (F : List Env) (O : Heap) (lvl : Nat) (st x i) : dOp R un qs d (.ias st x i) ⟨T, F, O, lvl⟩ = (iasV (filtO lvl un O) st (x.ev T) (i.ev T)).bind (ok1 ⟨T, F, O, lvl⟩) := rfl
theorem do_iaa (len st x i) : dOp R un qs d (.iaa len st x i) s = (iaaV len st (x.ev s.T) (i.ev s.T)).bind (ok1 s) := rfl
theorem do_ixa (ag len st x i) : dOp R un qs d (.ixa ag len st x i) s = (ixaV ag len st (x.ev s.T) (i.ev s.T)).bind (ok1 s) := rfl
theorem do_ixt (x i) : dOp R un qs d (.ixt x i) s = (ixtV (x.ev s.T) (i.ev s.T)).bind (ok1 s) := rfl
theorem do_lkp (T : Env) (F : List Env) (O : Heap) (lvl : Nat) (ks z ok x k) : dOp R un qs d (.lkp ks z ok x k) ⟨T, F, O, lvl⟩ = ((lkpV (filtO lvl un O) ks (k.ev T) (x.ev T)).bind (lkpK z ok)).bind (ok1 ⟨T, F, O, lvl⟩) := rfl
theorem do_zc (st x) : dOp R un qs d (.zc st x) s = (zcV st (x.ev s.T)).bind (ok1 s) := rfl
theorem do_capn (x) : dOp R un qs d (.capn x) s = (capV (x.ev s.T)).bind (ok1 s) := rfl
theorem do_isn (neg x) : dOp R un qs d (.isn neg x) s = (isnV neg (x.ev s.T)).bind (ok1 s) := rfl
theorem do_ext (x i) : dOp R un qs d (.ext x i) s = (extV i (x.ev s.T)).bind (ok1 s) := rfl
theorem do_len (T : Env) (F : List Env) (O : Heap) (lvl : Nat) (k x) : dOp R un qs d (.len k x) ⟨T, F, O, lvl⟩ = ((lenOf (filtO lvl un O) k (x.ev T)).bind intK).bind (ok1 ⟨T, F, O, lvl⟩) := rfl
theorem do_lena (n : Nat) : dOp R un qs d (.lena n) s = ok1 s (.int .i64 n) := rfl
theorem do_mn (xs) : dOp R un qs d (.mn xs) s = (foldV mnI (evs s.T xs)).bind (ok1 s) := rfl
theorem do_mx (xs) : dOp R un qs d (.mx xs) s = (foldV mxI (evs s.T xs)).bind (ok1 s) := rfl
end
-- the operations
variable (fz : Bool) (d : Nat)
theorem so_mv (x) : stepOp R fz d (.mv x) s = ok1 s (x.ev s.T) := rfl
theorem so_as (T : Env) (F : List Env) (O : Heap) (lvl : Nat) (x) : stepOp R fz d (.as x) ⟨T, F, O, lvl⟩ = asV (oid lvl d) ⟨T, F, O, lvl⟩ (x.ev T) := rfl
theorem so_pick (c a b) : stepOp R fz d (.pick c a b) s = (pickV (a.ev s.T) (b.ev s.T) (c.ev s.T)).bind (ok1 s) := rfl
theorem so_alloc (T : Env) (F : List Env) (O : Heap) (lvl : Nat) (z) : stepOp R fz d (.alloc z) ⟨T, F, O, lvl⟩ = boxV (oid lvl d) z ⟨T, F, O, lvl⟩ := rfl
theorem so_box (T : Env) (F : List Env) (O : Heap) (lvl : Nat) (x) : stepOp R fz d (.box x) ⟨T, F, O, lvl⟩ = boxV (oid lvl d) (x.ev T).cells ⟨T, F, O, lvl⟩ := rfl
theorem so_build (z ps) : stepOp R fz d (.build z ps) s = ((fill s.T ps z).bind aggK).bind (ok1 s) := rfl
theorem so_bsl (T : Env) (F : List Env) (O : Heap) (lvl : Nat) (st n z ps) : stepOp R fz d (.bsl st n z ps) ⟨T, F, O, lvl⟩ = if z.length = st then (fillS st T ps (List.replicate n z)).bind (bslK (oid lvl d) st n ⟨T, F, O, lvl⟩) else none := rfl
theorem so_load (ag n x) : stepOp R fz d (.load ag n x) s = (rd s.O ag n (x.ev s.T)).bind (ok1 s) := rfl
theorem so_store (n x v) : stepOp R fz d (.store n x v) s = (wr s n (x.ev s.T) (v.ev s.T).cells).bind okU := rfl
theorem so_nilc (x) : stepOp R fz d (.nilc x) s = (nilcV (x.ev s.T)).bind (ok1 s) := rfl
theorem so_bin (op x y) : stepOp R fz d (.bin op x y) s = (bin op (x.ev s.T) (y.ev s.T)).bind (ok1 s) := rfl
theorem so_bib (neg x y) : stepOp R fz d (.bib neg x y) s = (bibV neg (x.ev s.T) (y.ev s.T)).bind (ok1 s) := rfl
theorem so_eqa (neg ks x y) : stepOp R fz d (.eqa neg ks x y) s = (eqaV neg ks (x.ev s.T) (y.ev s.T)).bind (ok1 s) := rfl
theorem so_un (op x) : stepOp R fz d (.un op x) s = (unV op (x.ev s.T)).bind (ok1 s) := rfl
theorem so_conv (k x) : stepOp R fz d (.conv k x) s = (convV k (x.ev s.T)).bind (ok1 s) := rfl
theorem so_b2s (x) : stepOp R fz d (.b2s x) s = ((elems s.O (x.ev s.T)).bind b2sK).bind (ok1 s) := rfl
theorem so_mkf (f a b) : stepOp R fz d (.mkf f a b) s = ok1 s (.fn f (evs s.T a) (evs s.T b)) := rfl
theorem so_mkm (T : Env) (F : List Env) (O : Heap) (lvl : Nat) : stepOp R fz d .mkm ⟨T, F, O, lvl⟩ = some (.mp (oid lvl d), St.new (oid lvl d) (.map []) ⟨T, F, O, lvl⟩) := rfl
theorem so_mks (T : Env) (F : List Env) (O : Heap) (lvl : Nat) (st z a b) : stepOp R fz d (.mks st z a b) ⟨T, F, O, lvl⟩ = mksV (oid lvl d) z ⟨T, F, O, lvl⟩ (a.ev T) (b.ev T) := rfl
theorem so_sls (st x lo hi) : stepOp R fz d (.sls st x lo hi) s = (slsV s.T s.O st lo hi (x.ev s.T)).bind (ok1 s) := rfl
theorem so_slt (x lo hi) : stepOp R fz d (.slt x lo hi) s = (sltV s.T lo hi (x.ev s.T)).bind (ok1 s) := rfl
theorem so_sla (n st x lo hi) : stepOp R fz d (.sla n st x lo hi) s = (slaV s.T n st lo hi (x.ev s.T)).bind (ok1 s) := rfl
theorem so_fad (off x) : stepOp R fz d (.fad off x) s = (fadV off (x.ev s.T)).bind (ok1 s) := rfl
theorem so_fld (ag off n x) : stepOp R fz d (.fld ag off n x) s = (fldV ag off n (x.ev s.T)).bind (ok1 s) := rfl
theorem so_ias (st x i) : stepOp R fz d (.ias st x i) s = (iasV s.O st (x.ev s.T) (i.ev s.T)).bind (ok1 s) := rfl
theorem so_iaa (len st x i) : stepOp R fz d (.iaa len st x i) s = (iaaV len st (x.ev s.T) (i.ev s.T)).bind (ok1 s) := rfl
theorem so_ixa (ag len st x i) : stepOp R fz d (.ixa ag len st x i) s = (ixaV ag len st (x.ev s.T) (i.ev s.T)).bind (ok1 s) := rfl
theorem so_ixt (x i) : stepOp R fz d (.ixt x i) s = (ixtV (x.ev s.T) (i.ev s.T)).bind (ok1 s) := rfl
theorem so_lkp (ks z ok x k) : stepOp R fz d (.lkp ks z ok x k) s = ((lkpV s.O ks (k.ev s.T) (x.ev s.T)).bind (lkpK z ok)).bind (ok1 s) := rfl
theorem so_mpu (ks x k v) : stepOp R fz d (.mpu ks x k v) s = mpuV ks (k.ev s.T) (v.ev s.T) s (x.ev s.T) := rfl
theorem so_zc (st x) : stepOp R fz d (.zc st x) s = (zcV st (x.ev s.T)).bind (ok1 s) := rfl
theorem so_capn (x) : stepOp R fz d (.capn x) s = (capV (x.ev s.T)).bind (ok1 s) := rfl
theorem so_isn (neg x) : stepOp R fz d (.isn neg x) s = (isnV neg (x.ev s.T)).bind (ok1 s) := rfl
theorem so_ext (x i) : stepOp R fz d (.ext x i) s = (extV i (x.ev s.T)).bind (ok1 s) := rfl
theorem so_call (T : Env) (F : List Env) (O : Heap) (lvl : Nat) (f args) : stepOp R fz d (.call f args) ⟨T, F, O, lvl⟩ = callFn R fz (oid lvl d) f (evs T args) ⟨T, F, O, lvl⟩ := rfl
theorem so_cal (T : Env) (F : List Env) (O : Heap) (lvl : Nat) (f args) : stepOp R fz d (.cal f args) ⟨T, F, O, lvl⟩ = callV R fz (oid lvl d) (f.ev T) (evs T args) ⟨T, F, O, lvl⟩ := rfl
theorem so_len (k x) : stepOp R fz d (.len k x) s = ((lenOf s.O k (x.ev s.T)).bind intK).bind (ok1 s) := rfl
theorem so_lena (n : Nat) : stepOp R fz d (.lena n) s = ok1 s (.int .i64 n) := rfl
theorem so_app (T : Env) (F : List Env) (O : Heap) (lvl : Nat) (st b x) : stepOp R fz d (.app st b x) ⟨T, F, O, lvl⟩ = (elems O (x.ev T)).bind (appK st (oid lvl d) (b.ev T) ⟨T, F, O, lvl⟩) := rfl
theorem so_apz (st z b x) : stepOp R fz d (.apz st z b x) s = none := rfl
theorem so_cpy (st b x) : stepOp R fz d (.cpy st b x) s = (elems s.O (x.ev s.T)).bind (cpyK st (b.ev s.T) s) := rfl
theorem so_mn (xs) : stepOp R fz d (.mn xs) s = (foldV mnI (evs s.T xs)).bind (ok1 s) := rfl
theorem so_mx (xs) : stepOp R fz d (.mx xs) s = (foldV mxI (evs s.T xs)).bind (ok1 s) := rfl
end
theorem binI_add (k x y) : binI .add k x y = some (.int k (k.wrap (x + y))) := rfl
theorem binI_sub (k x y) : binI .sub k x y = some (.int k (k.wrap (x - y))) := rfl
theorem binI_mul (k x y) : binI .mul k x y = some (.int k (k.wrap (x * y))) := rfl
theorem binI_quo (k x y) : binI .quo k x y = if y = 0 then none else some (.int k (k.wrap (x.tdiv y))) := rfl
theorem binI_rem (k x y) : binI .rem k x y = if y = 0 then none else some (.int k (x.tmod y)) := rfl
theorem binI_and (k x y) : binI .and k x y = some (.int k (k.wrap (bits k x &&& bits k y).toNat)) := rfl
theorem binI_or (k x y) : binI .or k x y = some (.int k (k.wrap (bits k x ||| bits k y).toNat)) := rfl
theorem binI_xor (k x y) : binI .xor k x y = some (.int k (k.wrap (bits k x ^^^ bits k y).toNat)) := rfl
theorem binI_eql (k x y) : binI .eql k x y = some (.bool (x == y)) := rfl
theorem binI_neq (k x y) : binI .neq k x y = some (.bool (x != y)) := rfl
theorem binI_lss (k x y) : binI .lss k x y = some (.bool (decide (x < y))) := rfl
theorem binI_leq (k x y) : binI .leq k x y = some (.bool (decide (x ≤ y))) := rfl
theorem binI_gtr (k x y) : binI .gtr k x y = some (.bool (decide (x > y))) := rfl
theorem binI_geq (k x y) : binI .geq k x y = some (.bool (decide (x ≥ y))) := rfl
theorem bin_int (op k k' x y) : bin op (.int k x) (.int k' y) = if isShf op = true then shf op k x y else if k = k' then binI op k x y else none := rfl
theorem bibV_eq (neg a b) : bibV neg (.bool a) (.bool b) = some (.bool ((a == b) != neg)) := rfl
theorem bin_str (op a b) : bin op (.str a) (.str b) = binT op a b := rfl
theorem binT_eql (a b) : binT .eql a b = some (.bool (a == b)) := rfl
theorem binT_neq (a b) : binT .neq a b = some (.bool (a != b)) := rfl
theorem pickV_eq (a b : LV) (t : Bool) : pickV a b (.bool t) = some (if t = true then a else b) := rfl
theorem aggK_eq (cs : List LV) : aggK cs = some (.agg cs) := rfl
theorem intK_eq (n : Int) : intK n = some (.int .i64 n) := rfl
theorem eqaK_f (b : Bool) : eqaK false b = some (.bool b) := by simp [eqaK]
theorem eqaK_t (b : Bool) : eqaK true b = some (.bool (!b)) := by simp [eqaK]
theorem eqaV_eq (neg ks a b) : eqaV neg ks (.agg a) (.agg b) = (eqs ks a b).bind (eqaK neg) := rfl
theorem eq1_int (k k' x y) : eq1 0 (.int k x) (.int k' y) = if k = k' then some (x == y) else none := rfl
theorem eq1_bool (a b) : eq1 1 (.bool a) (.bool b) = some (a == b) := rfl
theorem eq1_str (a b) : eq1 2 (.str a) (.str b) = some (a == b) := rfl
theorem eqs_nil : eqs [] [] [] = some true := rfl
theorem eqs_cons (t ts x l y m) : eqs (t :: ts) (x :: l) (y :: m) = (eq1 t x y).bind (andK (eqs ts l m)) := rfl
theorem andK_some (a b : Bool) : andK (some a) b = some (b && a) := rfl
theorem unV_neg (k n) : unV .neg (.int k n) = some (.int k (k.wrap (0 - n))) := rfl
theorem unV_not (b) : unV .not (.bool b) = some (.bool (!b)) := rfl
theorem convV_eq (k k' n) : convV k (.int k' n) = some (.int k (k.wrap n)) := rfl
theorem cells_agg (cs) : LV.cells (.agg cs) = cs := rfl
theorem cells_int (k n) : LV.cells (.int k n) = [.int k n] := rfl
theorem cells_bool (b) : LV.cells (.bool b) = [.bool b] := rfl
theorem cells_str (b) : LV.cells (.str b) = [.str b] := rfl
theorem cells_vs (b) : LV.cells (.vs b) = [.vs b] := rfl
theorem cells_nils (st) : LV.cells (.nils st) = [.nils st] := rfl
theorem cells_nilp : LV.cells .nilp = [.nilp] := rfl
theorem cells_nilf : LV.cells .nilf = [.nilf] := rfl
theorem cells_nilm : LV.cells .nilm = [.nilm] := rfl
theorem cells_bs (a b c) : LV.cells (.bs a b c) = [.bs a b c] := rfl
theorem cells_ptr (a b) : LV.cells (.ptr a b) = [.ptr a b] := rfl
theorem cells_fp (a) : LV.cells (.fp a) = [.fp a] := rfl
theorem cells_fn (a b c) : LV.cells (.fn a b c) = [.fn a b c] := rfl
theorem cells_mp (a) : LV.cells (.mp a) = [.mp a] := rfl
-- reading
theorem rd_ptr (O ag n id off) : rd O ag n (.ptr id off) = boxPart ag off n (oget O id) := rfl
theorem rd_ep (O ag n id i off) : rd O ag n (.ep id i off) = rowPart ag i off n (oget O id) := rfl
theorem rd_fp (O ag n cs) : rd O ag n (.fp cs) = part ag 0 n cs := rfl
theorem boxPart_eq (ag off n cs) : boxPart ag off n (some (.box cs)) = part ag off n cs := rfl
theorem rowPart_eq (ag i off n st xs) : rowPart ag i off n (some (.row st xs)) = optPart ag off n xs[i]? := rfl
theorem optPart_eq (ag off n x) : optPart ag off n (some x) = part ag off n x := rfl
theorem part_t (off n cs) : part true off n cs = if off + n ≤ cs.length then some (.agg ((cs.drop off).take n)) else none := rfl
theorem part_f (off n cs) : part false off n cs = cs[off]? := rfl
-- writing
theorem wr_eq (s n x cs) : wr s n x cs = if cs.length = n ∧ cs.all LV.one = true then wrAt s cs x else none := rfl
theorem wrAt_ptr (s cs id off) : wrAt s cs (.ptr id off) = (rowsOf cs (id + 1 + off) cs s).bind (wrBox id off) := rfl
theorem wrAt_ep (s cs id i off) : wrAt s cs (.ep id i off) = (closeCells s cs).bind (wrRow id i off) := rfl
theorem wrBox_eq (id off cs s) : wrBox id off (cs, s) = setBox id off s cs (oget s.O id) := rfl
theorem setBox_eq (id off T F O lvl cs bs) : setBox id off ⟨T, F, O, lvl⟩ cs (some (.box bs)) = if off + cs.length ≤ bs.length then some ⟨T, F, oset O id (.box (setAt bs off cs)), lvl⟩ else none := rfl
theorem wrRow_eq (id i off cs s) : wrRow id i off (cs, s) = setRow id i off s cs (oget s.O id) := rfl
theorem setRow_eq (id i off s cs st xs) : setRow id i off s cs (some (.row st xs)) = setElt id st i off s xs cs xs[i]? := rfl
theorem setElt_eq (id st i off T F O lvl xs cs y) : setElt id st i off ⟨T, F, O, lvl⟩ xs cs (some y) = if off + cs.length ≤ y.length then some ⟨T, F, oset O id (.row st (xs.set i (setAt y off cs))), lvl⟩ else none := rfl
theorem setAt_eq (cs off vs) : setAt cs off vs = cs.take off ++ (vs ++ cs.drop (off + vs.length)) := rfl
theorem closeCells_eq (s cs) : closeCells s cs = closedK s (LV.idss cs) (LV.cls s.O cs) := rfl
theorem closedK_eq (s ids cs) : closedK s ids cs = if LV.closeds cs = true ∧ cs.all LV.one = true then some (cs, St.frees ids s) else none := rfl
theorem closeRows_nil (s) : closeRows [] s = some ([], s) := rfl
theorem closeRows_cons (s x l) : closeRows (x :: l) s = (closeCells s x).bind (rowsK (closeRows l)) := rfl
theorem rowsK_eq (k cs s) : rowsK k (cs, s) = (k s).bind (rowsK1 cs) := rfl
theorem rowsK1_eq (y l s) : rowsK1 y (l, s) = some (y :: l, s) := rfl
theorem isNils_nils (st) : isNils (.nils st) = true := rfl
theorem nilSt_nils (st) : nilSt (.nils st) = st := rfl
theorem isNils_nul : isNils .nul = false := rfl
theorem isNils_emp : isNils .emp = false := rfl
theorem isNils_int (k n) : isNils (.int k n) = false := rfl
theorem isNils_bool (b) : isNils (.bool b) = false := rfl
theorem isNils_str (b) : isNils (.str b) = false := rfl
theorem isNils_agg (b) : isNils (.agg b) = false := rfl
theorem isNils_tup (b) : isNils (.tup b) = false := rfl
theorem isNils_vs (b) : isNils (.vs b) = false := rfl
theorem isNils_bs (a b c) : isNils (.bs a b c) = false := rfl
theorem isNils_bb (a b c d) : isNils (.bb a b c d) = false := rfl
theorem isNils_ptr (a b) : isNils (.ptr a b) = false := rfl
theorem isNils_ep (a b c) : isNils (.ep a b c) = false := rfl
theorem isNils_fp (a) : isNils (.fp a) = false := rfl
theorem isNils_fn (a b c) : isNils (.fn a b c) = false := rfl
theorem isNils_nilp : isNils .nilp = false := rfl
theorem isNils_nilf : isNils .nilf = false := rfl
theorem isNils_nilm : isNils .nilm = false := rfl
theorem isNils_mp (a) : isNils (.mp a) = false := rfl
theorem isNils_any : isNils .any = false := rfl
theorem isNils_undef : isNils .undef = false := rfl
theorem isNils_yl (a) : isNils (.yl a) = false := rfl
theorem rowsOf_nil (all id s) : rowsOf all id [] s = some ([], s) := rfl
theorem rowsOf_cons (all id v l s) : rowsOf all id (v :: l) s = if isNils v = true then (if LV.aparts id all = true then (rowsOf all (id + 1) l (St.new id (.row (nilSt v) []) s)).map (consC (.bs id 0 0)) else none) else (rowsOf all (id + 1) l s).map (consC v) := rfl
theorem consC_eq (v l s) : consC v (l, s) = (v :: l, s) := rfl
theorem new_eq (id o s) : St.new id o s = St.push id o (St.free id s) := rfl
theorem push_eq (id o T F O lvl) : St.push id o ⟨T, F, O, lvl⟩ = ⟨T, F, (id, o) :: O, lvl⟩ := rfl
theorem free_eq (id s) : St.free id s = freeO id s (oget s.O id) := rfl
theorem freeO_none (id s) : freeO id s none = s := rfl
theorem freeO_some (id T F O lvl o) : freeO id ⟨T, F, O, lvl⟩ (some o) = ⟨Env.sub (repOf o) id T, Envs.sub (repOf o) id F, Heap.sub (repOf o) id (odel O id), lvl⟩ := rfl
theorem sub_eq (r id T F O lvl) : St.sub r id ⟨T, F, O, lvl⟩ = ⟨Env.sub r id T, Envs.sub r id F, Heap.sub r id O, lvl⟩ := rfl
theorem repOf_box (cs) : repOf (.box cs) = .kill := rfl
theorem repOf_row (st xs) : repOf (.row st xs) = .frz xs := rfl
theorem repOf_map (xs) : repOf (.map xs) = .kill := rfl
theorem repOf_loop (a b c d e f) : repOf (.loop a b c d e f) = .kill := rfl
theorem frees_nil (s) : St.frees [] s = s := rfl
theorem frees_cons (i l s) : St.frees (i :: l) s = St.frees l (St.free i s) := rfl
theorem esub_nil (r id) : Env.sub r id [] = [] := rfl
theorem esub_cons (r id k v l) : Env.sub r id ((k, v) :: l) = (k, LV.sub r id v) :: Env.sub r id l := rfl
theorem essub_nil (r id) : Envs.sub r id [] = [] := rfl
theorem essub_cons (r id v l) : Envs.sub r id (v :: l) = Env.sub r id v :: Envs.sub r id l := rfl
theorem hsub_nil (r id) : Heap.sub r id [] = [] := rfl
theorem hsub_cons (r id k v l) : Heap.sub r id ((k, v) :: l) = (k, Obj.sub r id v) :: Heap.sub r id l := rfl
theorem osub_box (r id cs) : Obj.sub r id (.box cs) = .box (LV.subs r id cs) := rfl
theorem osub_row (r id st xs) : Obj.sub r id (.row st xs) = .row st xs := rfl
theorem osub_map (r id xs) : Obj.sub r id (.map xs) = .map xs := rfl
theorem osub_loop (r id T ps a b st p) : Obj.sub r id (.loop T ps a b st p) = .loop (Env.sub r id T) ps a b st p := rfl
theorem rbs_kill (a b) : Rep.bs .kill a b = .any := rfl
theorem rbs_frz (xs a b) : Rep.bs (.frz xs) a b = if a + b ≤ xs.length then .vs ((xs.drop a).take b) else .any := rfl
theorem rep_kill (a b) : Rep.ep .kill a b = .any := rfl
theorem rep_frz (xs a b) : Rep.ep (.frz xs) a b = fpAt b xs[a]? := rfl
theorem boxV_eq (id z s) : boxV id z s = if z.all LV.one = true then (rowsOf z (id + 1) z s).bind (boxK id) else none := rfl
theorem boxK_eq (id cs s) : boxK id (cs, s) = if LV.aparts id cs = true then some (.ptr id 0, St.new id (.box cs) s) else none := rfl
theorem afterIn_eq (lvl v T F O) : afterIn lvl (.res v (T :: F) O) = popK (St.frees (idsFrom (lvl + 1) O) { T, F := [(0, v)] :: F, O, lvl }) := rfl
theorem popK_eq (T V F O lvl) : popK ⟨T, V :: F, O, lvl⟩ = some (tget V 0, ⟨T, F, O, lvl⟩) := rfl
theorem idsFrom_nil (lvl) : idsFrom lvl [] = [] := rfl
theorem idsFrom_cons (lvl k v l) : idsFrom lvl ((k, v) :: l) = if lvl * 1048576 ≤ k then k :: idsFrom lvl l else idsFrom lvl l := rfl
theorem asV_eq (id s v) : asV id s v = if isNils v = true then some (.bs id 0 0, St.new id (.row (nilSt v) []) s) else some (v, s) := rfl
theorem bslK_eq (id st n s xs) : bslK id st n s xs = bslJ id st n s xs (closeRows xs s) := rfl
theorem bslJ_some (id st n s xs r) : bslJ id st n s xs (some r) = rowK id st n r := rfl
theorem bslJ_none (id st n s xs) : bslJ id st n s xs none = bslB id st n s xs.flatten := rfl
theorem bslJ_ite {c : Prop} [Decidable c] (id st n s xs x y) : bslJ id st n s xs (if c then x else y) = if c then bslJ id st n s xs x else bslJ id st n s xs y := by split <;> rfl
theorem bslB_eq (id st n s cs) : bslB id st n s cs = if (cs.all LV.one && LV.aparts id cs) = true then some (.bb id 0 st n, St.new id (.box cs) s) else none := rfl
theorem rowK_eq (id st n xs s) : rowK id st n (xs, s) = some (.bs id 0 n, St.new id (.row st xs) s) := rfl
theorem fill_nil (T cs) : fill T [] cs = some cs := rfl
theorem fill_cons (T off n x l cs) : fill T ((off, n, x) :: l) cs = fillK (fill T l) cs off n (x.ev T).cells := rfl
theorem fillK_eq (k cs off n v) : fillK k cs off n v = if v.length = n ∧ off + n ≤ cs.length ∧ v.all LV.one = true then k (setAt cs off v) else none := rfl
theorem fillS_nil (st T cs) : fillS st T [] cs = some cs := rfl
theorem fillS_cons (st T i x l cs) : fillS st T ((i, x) :: l) cs = fillSK (fillS st T l) st cs i (x.ev T).cells := rfl
theorem fillSK_eq (k st xs i v) : fillSK k st xs i v = if v.length = st ∧ i < xs.length ∧ v.all LV.one = true then k (xs.set i v) else none := rfl
theorem fadV_ptr (o id p) : fadV o (.ptr id p) = some (.ptr id (p + o)) := rfl
theorem fadV_ep (o id i p) : fadV o (.ep id i p) = some (.ep id i (p + o)) := rfl
theorem fadV_fp (o cs) : fadV o (.fp cs) = some (.fp (cs.drop o)) := rfl
theorem fldV_agg (ag o n cs) : fldV ag o n (.agg cs) = part ag o n cs := rfl
theorem iasV_int (O st x k n) : iasV O st x (.int k n) = iasI O st n x := rfl
theorem iasI_vs (O st n xs) : iasI O st n (.vs xs) = if 0 ≤ n then (xs[n.toNat]?).bind (eltK st) else none := rfl
theorem iasI_bs (O st n id off len) : iasI O st n (.bs id off len) = iasRow st id off len n (oget O id) := rfl
theorem iasRow_eq (st id off len n st' xs) : iasRow st id off len n (some (.row st' xs)) = if 0 ≤ n ∧ n < (len : Int) ∧ st' = st then some (.ep id (off + n.toNat) 0) else none := rfl
theorem iasI_bb (O st n id off st' len)   : iasI O st n (.bb id off st' len) = if 0 ≤ n ∧ n < (len : Int) ∧ st' = st then some (.ptr id (off + n.toNat * st)) else none := rfl
theorem eltK_eq (st c) : eltK st c = if c.length = st then some (.fp c) else none := rfl
theorem iaaV_int (len st x k n) : iaaV len st x (.int k n) = if 0 ≤ n ∧ n < (len : Int) then iaaI (n.toNat * st) x else none := rfl
theorem iaaI_ptr (o id p) : iaaI o (.ptr id p) = some (.ptr id (p + o)) := rfl
theorem iaaI_ep (o id i p) : iaaI o (.ep id i p) = some (.ep id i (p + o)) := rfl
theorem iaaI_fp (o cs) : iaaI o (.fp cs) = some (.fp (cs.drop o)) := rfl
theorem ixaV_int (ag len st x k n) : ixaV ag len st x (.int k n) = if 0 ≤ n ∧ n < (len : Int) then fldV ag (n.toNat * st) st x else none := rfl
theorem ixtV_int (x k n) : ixtV x (.int k n) = ixtI n x := rfl
theorem ixtI_str (n l) : ixtI n (.str l) = if 0 ≤ n then (l[n.toNat]?).bind u8K else none := rfl
theorem u8K_eq (b) : u8K b = some (u8 b) := rfl
theorem zcV_vs (st x) : zcV st (.vs x) = some (.nils st) := rfl
theorem zcV_bs (st a b c) : zcV st (.bs a b c) = some (.nils st) := rfl
theorem zcV_nils (st st') : zcV st (.nils st') = some (.nils st) := rfl
theorem capV_nils (st) : capV (.nils st) = some (.int .i64 0) := rfl
theorem isnV_nul (n) : isnV n .nul = some (.bool (true != n)) := rfl
theorem isnV_emp (n) : isnV n .emp = some (.bool (false != n)) := rfl
theorem isnV_vs (n xs) : isnV n (.vs xs) = if xs.isEmpty = true then none else some (.bool (false != n)) := rfl
theorem extV_tup (i l) : extV i (.tup l) = l[i]? := rfl
theorem lenOf_vs (O xs) : lenOf O 0 (.vs xs) = some (xs.length : Int) := rfl
theorem lenOf_bs (O a b c) : lenOf O 0 (.bs a b c) = some (c : Int) := rfl
theorem lenOf_bb (O a b c d) : lenOf O 0 (.bb a b c d) = some (d : Int) := rfl
theorem lenOf_nils (O st) : lenOf O 0 (.nils st) = some 0 := rfl
theorem lenOf_nul (O) : lenOf O 0 .nul = some 0 := rfl
theorem lenOf_emp (O) : lenOf O 0 .emp = some 0 := rfl
theorem lenOf_mp (O id) : lenOf O 2 (.mp id) = lenMp (oget O id) := rfl
theorem lenOf_nilm (O) : lenOf O 2 .nilm = some 0 := rfl
theorem lenMp_eq (es) : lenMp (some (.map es)) = some (es.length : Int) := rfl
theorem lkpV_nilm (O ks k) : lkpV O ks k .nilm = (eqKey ks k k).bind fun _ => some none := rfl
theorem lkpV_mp (O ks k id) : lkpV O ks k (.mp id) = (eqKey ks k k).bind fun _ => lkpO ks k (oget O id) := rfl
theorem lkpO_eq (ks k es) : lkpO ks k (some (.map es)) = lookupE ks k es := rfl
theorem eqKey_eq (t ts k a) : eqKey (t :: ts) k a = if isAg k = (t == 1) ∧ isAg a = (t == 1) then eqs ts k.cells a.cells else none := rfl
theorem isAg_agg (cs) : isAg (.agg cs) = true := rfl
theorem isAg_int (k n) : isAg (.int k n) = false := rfl
theorem isAg_str (l) : isAg (.str l) = false := rfl
theorem isAg_bool (b) : isAg (.bool b) = false := rfl
theorem lookupE_nil (ks k) : lookupE ks k [] = some none := rfl
theorem lookupE_cons (ks k a v l) : lookupE ks k ((a, v) :: l) = (eqKey ks k a).bind (lookK v (lookupE ks k l)) := rfl
theorem lookK_eq (v k b) : lookK v k b = if b = true then some (some v) else k := rfl
theorem lkpK_some (z ok v) : lkpK z ok (some v) = some (if ok = true then .tup [v, .bool true] else v) := rfl
theorem lkpK_none (z ok) : lkpK z ok none = some (if ok = true then .tup [z, .bool false] else z) := rfl
theorem mpuV_mp (ks k v s id) : mpuV ks k v s (.mp id) = mpuO ks id k v s (oget s.O id) := rfl
theorem mpuO_eq (ks id k v s es) : mpuO ks id k v s (some (.map es)) = if LV.closed k = true ∧ LV.closed v = true then (eqKey ks k k).bind fun _ => (updE ks k v es).bind (mpuK id s) else none := rfl
theorem mpuK_eq (id s es) : mpuK id s es = okU { s with O := oset s.O id (.map es) } := rfl
theorem updE_nil (ks k v) : updE ks k v [] = some [(k, v)] := rfl
theorem updE_cons (ks k v a w l) : updE ks k v ((a, w) :: l) = (eqKey ks k a).bind (updK k v a w l (updE ks k v l)) := rfl
theorem updK_eq (k v a w l r b) : updK k v a w l r b = if b = true then some ((k, v) :: l) else r.bind (consE a w) := rfl
theorem consE_eq (a w m) : consE a w m = some ((a, w) :: m) := rfl
theorem lenOf_str (O xs) : lenOf O 1 (.str xs) = some (xs.length : Int) := rfl
theorem elems_vs (O xs) : elems O (.vs xs) = some xs := rfl
theorem elems_nils (O st) : elems O (.nils st) = some [] := rfl
theorem elems_nul (O) : elems O .nul = some [] := rfl
theorem elems_emp (O) : elems O .emp = some [] := rfl
theorem elems_bs (O a b c) : elems O (.bs a b c) = rowElems b c (oget O a) := rfl
theorem elems_bb (O a b c d) : elems O (.bb a b c d) = boxElemsC b c d (oget O a) := rfl
theorem elems_str (O l) : elems O (.str l) = some (u8s l) := rfl
theorem rowElems_eq (a b st xs) : rowElems a b (some (.row st xs)) = if a + b ≤ xs.length then some ((xs.drop a).take b) else none := rfl
theorem map_ite {α β : Type} {c : Prop} [Decidable c] (x y : Option α) (k : α → β) : (if c then x else y).map k = if c then x.map k else y.map k := by split <;> rfl
theorem boxElemsC_eq (a b c xs) : boxElemsC a b c (some (.box xs)) = if LV.closeds xs = true ∧ a + c * b ≤ xs.length then some (chunk b c (xs.drop a)) else none := rfl
theorem vsK_some (v xs) : vsK v (some xs) = .vs xs := rfl
theorem chunk_zero (st cs) : chunk st 0 cs = [] := rfl
theorem chunk_succ (st n cs) : chunk st (n + 1) cs = cs.take st :: chunk st n (cs.drop st) := rfl
theorem appK_eq (st d b s ys) : appK st d b s ys = if allLen st ys = true then appV st d ys s b else none := rfl
theorem appV_nils (st d ys s st') : appV st d ys s (.nils st') = if ys.length ≤ 1000000000 then some (.bs d 0 ys.length, St.new d (.row st ys) s) else none := rfl
theorem appV_bs (st d ys s id off len) : appV st d ys s (.bs id off len) = appO st id off len ys s (oget s.O id) := rfl
theorem appO_row (st id off len ys T F O lvl st' xs) : appO st id off len ys ⟨T, F, O, lvl⟩ (some (.row st' xs)) =
    if off = 0 ∧ len ≤ xs.length ∧ st' = st ∧ len + ys.length ≤ 1000000000 then
      some (.bs id 0 (len + ys.length), St.sub .kill id ⟨T, F, oset O id (.row st (xs.take len ++ ys)), lvl⟩) else none := rfl
theorem allLen_eq (st xs) : allLen st xs = xs.all fun x => x.length == st := rfl
theorem apzV_int (z d b s k n) : apzV z d b s (.int k n) = if 0 ≤ n ∧ n ≤ 1000000000 ∧ LV.closeds z = true then appV z.length d (List.replicate n.toNat z) s b else none := rfl
theorem mksV_int (id z s k n k' m) : mksV id z s (.int k n) (.int k' m) = if 0 ≤ n ∧ n ≤ m ∧ m ≤ 1000000000 ∧ LV.closeds (LV.cls [] z) = true then
      some (.bs id 0 n.toNat, St.new id (.row z.length (List.replicate n.toNat (LV.cls [] z))) s) else none := rfl
theorem cpyK_eq (st b s ys) : cpyK st b s ys = cpyV st ys s b := rfl
theorem cpyV_bs (st ys s id off len) : cpyV st ys s (.bs id off len) = cpyO st id off len ys s (oget s.O id) := rfl
theorem cpyO_row (st id off len ys T F O lvl st' xs) : cpyO st id off len ys ⟨T, F, O, lvl⟩ (some (.row st' xs)) = if allLen st ys = true ∧ st' = st ∧ off + len ≤ xs.length then
      some (.int .i64 (min ys.length len : Nat), ⟨T, F, oset O id (.row st (xs.take off ++ (ys.take (min ys.length len) ++ xs.drop (off + min ys.length len)))), lvl⟩) else none := rfl
theorem foldV_cons (f v l) : foldV f (v :: l) = fold2 f v l := rfl
theorem fold2_nil (f v) : fold2 f v [] = some v := by cases v <;> rfl
theorem fold2_cons (f k a k' b l) : fold2 f (.int k a) (.int k' b :: l) = if k = k' then fold2 f (.int k (f a b)) l else none := rfl
-- slicing
theorem bnd_none (T d l) : bnd T d l none = some d := rfl
theorem bnd_some (T d l x) : bnd T d l (some x) = bndV l (x.ev T) := rfl
theorem bndV_int (lim : Nat) (k n) : bndV lim (.int k n) = if 0 ≤ n ∧ n ≤ (lim : Int) then some n.toNat else none := rfl
theorem cut_eq (T n lo hi f) : cut T n lo hi f = (bnd T n n hi).bind (cutK T lo f) := rfl
theorem cutK_eq (T lo f h) : cutK T lo f h = (bnd T 0 h lo).bind (cutK2 f h) := rfl
theorem cutK2_eq (f : Nat → Nat → LV) (h l) : cutK2 f h l = some (f h l) := rfl
theorem slsV_vs (T O st lo hi xs) : slsV T O st lo hi (.vs xs) = if allLen st xs = true then cut T xs.length lo hi (cutVs xs) else none := rfl
theorem slsV_bs (T O st lo hi id off len) : slsV T O st lo hi (.bs id off len) = slsRow T st id off len lo hi (oget O id) := rfl
theorem slsV_bb (T O st lo hi id off st' len) : slsV T O st lo hi (.bb id off st' len) = if st' = st then cut T len lo hi (cutBb id off st) else none := rfl
theorem slsRow_eq (T st id off len lo hi st' xs) : slsRow T st id off len lo hi (some (.row st' xs)) = if st' = st then cut T len lo hi (cutBs id off) else none := rfl
theorem slsV_nils (T O st lo hi st') : slsV T O st lo hi (.nils st') = cut T 0 lo hi (cutNil st') := rfl
theorem cutNil_eq (st h l) : cutNil st h l = .nils st := rfl
theorem sltV_str (T lo hi xs) : sltV T lo hi (.str xs) = cut T xs.length lo hi (cutStr xs) := rfl
theorem slaV_ptr (T n st lo hi id off) : slaV T n st lo hi (.ptr id off) = cut T n lo hi (cutBb id off st) := rfl
theorem slaV_fp (T n st lo hi cs) : slaV T n st lo hi (.fp cs) = if n * st ≤ cs.length then cut T n lo hi (cutFp st cs) else none := rfl
theorem cutVs_eq (xs h l) : cutVs xs h l = .vs ((xs.take h).drop l) := rfl
theorem cutBs_eq (id off h l) : cutBs id off h l = .bs id (off + l) (h - l) := rfl
theorem cutStr_eq (xs h l) : cutStr xs h l = .str ((xs.take h).drop l) := rfl
theorem cutBb_eq (id off st h l) : cutBb id off st h l = .bb id (off + l * st) st (h - l) := rfl
theorem cutFp_eq (st cs h l) : cutFp st cs h l = .vs (chunk st (h - l) (cs.drop (l * st))) := rfl
-- calls
theorem callFn_eq (R fz id f args s) : callFn R fz id f args s = callClosed R fz id f args s (LV.cls s.O args) := rfl
theorem callV_fn (R fz id f a b args s) : callV R fz id (.fn (.func f) a b) args s = callFn R fz id f (a ++ (args ++ b)) s := rfl
theorem afterPure_eq (fz id ids s r) : afterPure fz id ids s r = if (ids.isEmpty || LV.noVs r) = true then some (import_ id s r) else some (import_ id (St.frees ids s) r) := rfl
theorem import_tup (id s l) : import_ id s (.tup l) = tupK (imports id l s) := rfl
theorem import_agg (id s l) : import_ id s (.agg l) = (.agg l, s) := rfl
theorem import_int (id s k n) : import_ id s (.int k n) = (.int k n, s) := rfl
theorem import_bool (id s b) : import_ id s (.bool b) = (.bool b, s) := rfl
theorem import_str (id s b) : import_ id s (.str b) = (.str b, s) := rfl
theorem import_vs (id s b) : import_ id s (.vs b) = (.vs b, s) := rfl
theorem import_fn (id s a b c) : import_ id s (.fn a b c) = (.fn a b c, s) := rfl
theorem import_os (id s st xs) : import_ id s (.os st xs) = (.bs id 0 xs.length, St.new id (.row st xs) s) := rfl
theorem import_om (id s xs) : import_ id s (.om xs) = (.mp id, St.new id (.map xs) s) := rfl
theorem tupK_eq (l s) : tupK (l, s) = (.tup l, s) := rfl
theorem imports_nil (id s) : imports id [] s = ([], s) := rfl
theorem imports_cons (id v l s) : imports id (v :: l) s = importsK (imports (id + 1) l) (import1 id s v) := rfl
theorem importsK_eq (k : St → List LV × St) (v s) : importsK k (v, s) = consC v (k s) := rfl
theorem import1_agg (id s l) : import1 id s (.agg l) = (.agg l, s) := rfl
theorem import1_int (id s k n) : import1 id s (.int k n) = (.int k n, s) := rfl
theorem import1_bool (id s b) : import1 id s (.bool b) = (.bool b, s) := rfl
theorem import1_str (id s b) : import1 id s (.str b) = (.str b, s) := rfl
theorem import1_vs (id s b) : import1 id s (.vs b) = (.vs b, s) := rfl
theorem import1_os (id s st xs) : import1 id s (.os st xs) = (.bs id 0 xs.length, St.new id (.row st xs) s) := rfl
theorem import1_om (id s xs) : import1 id s (.om xs) = (.mp id, St.new id (.map xs) s) := rfl
-- handing back
theorem exportV_eq (O v) : exportV O v = chkR (exportR O v) := rfl
theorem chkR_eq (r) : chkR r = if LV.closedR r = true then some r else none := rfl
theorem exportR_tup (O l) : exportR O (.tup l) = .tup (exports l O) := rfl
theorem exportR_agg (O l) : exportR O (.agg l) = .agg (LV.cls O l) := rfl
theorem exportR_int (O k n) : exportR O (.int k n) = .int k n := rfl
theorem exportR_bool (O b) : exportR O (.bool b) = .bool b := rfl
theorem exportR_str (O b) : exportR O (.str b) = .str b := rfl
theorem exportR_vs (O b) : exportR O (.vs b) = .vs b := rfl
theorem exportR_fn (O a b c) : exportR O (.fn a b c) = .fn a (LV.cls O b) (LV.cls O c) := rfl
theorem exportR_nils (O st) : exportR O (.nils st) = .os st [] := rfl
theorem exportR_os (O st xs) : exportR O (.os st xs) = .os st xs := rfl
theorem exportR_bs (O a b c) : exportR O (.bs a b c) = (expBs O a b c (oget O a)).1 := rfl
theorem exportR_mp (O a) : exportR O (.mp a) = (expMp O a (oget O a)).1 := rfl
theorem expBs_row (O id off len st xs) : expBs O id off len (some (.row st xs)) = if off + len ≤ xs.length then (if off = 0 then .os st (xs.take len) else .vs ((xs.drop off).take len), odel O id) else (.bs id off len, O) := rfl
theorem expMp_map (O id es) : expMp O id (some (.map es)) = (.om es, odel O id) := rfl
theorem exports_nil (O) : exports [] O = [] := rfl
theorem exports_cons (O v l) : exports (v :: l) O = exportsK (exports l) (export1 O v) := rfl
theorem exportsK_eq (k : Heap → List LV) (v O) : exportsK k (v, O) = v :: k O := rfl
theorem export1_agg (O l) : export1 O (.agg l) = (.agg (LV.cls O l), delIds (LV.idss l) O) := rfl
theorem export1_fn (O a b c) : export1 O (.fn a b c) = (.fn a (LV.cls O b) (LV.cls O c), delIds (LV.idss b ++ LV.idss c) O) := rfl
theorem delIds_nil (O) : delIds [] O = O := rfl
theorem delIds_cons (i l O) : delIds (i :: l) O = delIds l (odel O i) := rfl
theorem export1_int (O k n) : export1 O (.int k n) = (.int k n, O) := rfl
theorem export1_bool (O b) : export1 O (.bool b) = (.bool b, O) := rfl
theorem export1_str (O b) : export1 O (.str b) = (.str b, O) := rfl
theorem export1_vs (O b) : export1 O (.vs b) = (.vs b, O) := rfl
theorem export1_nils (O st) : export1 O (.nils st) = (.os st [], O) := rfl
theorem export1_os (O st xs) : export1 O (.os st xs) = (.os st xs, O) := rfl
theorem export1_bs (O a b c) : export1 O (.bs a b c) = expBs O a b c (oget O a) := rfl
theorem export1_mp (O a) : export1 O (.mp a) = expMp O a (oget O a) := rfl
theorem closedC_os (st xs) : LV.closedC (.os st xs) = true := by simp only [LV.closedC]
theorem closedC_om (xs) : LV.closedC (.om xs) = true := by simp only [LV.closedC]
theorem closedC_agg (l) : LV.closedC (.agg l) = LV.closeds l := by simp only [LV.closedC, LV.closed]
theorem closedC_int (k n) : LV.closedC (.int k n) = true := by simp only [LV.closedC, LV.closed]
theorem closedC_bool (b) : LV.closedC (.bool b) = true := by simp only [LV.closedC, LV.closed]
theorem closedC_str (b) : LV.closedC (.str b) = true := by simp only [LV.closedC, LV.closed]
theorem closedC_vs (b) : LV.closedC (.vs b) = true := by simp only [LV.closedC, LV.closed]
theorem closedC_fn (a b c) : LV.closedC (.fn a b c) = (LV.closeds b && LV.closeds c) := by simp only [LV.closedC, LV.closed]
theorem closedC_nul : LV.closedC .nul = true := rfl
theorem closedC_emp : LV.closedC .emp = true := rfl
theorem closedC_nilf : LV.closedC .nilf = true := rfl
theorem closedC_nilp : LV.closedC .nilp = true := rfl
theorem closedR_os (st xs) : LV.closedR (.os st xs) = true := by simp only [LV.closedR, LV.closedC]
theorem closedR_om (xs) : LV.closedR (.om xs) = true := by simp only [LV.closedR, LV.closedC]
theorem closedR_tup (l) : LV.closedR (.tup l) = LV.closedRs l := rfl
theorem closedR_agg (l) : LV.closedR (.agg l) = LV.closeds l := by simp only [LV.closedR, LV.closedC, LV.closed]
theorem closedR_int (k n) : LV.closedR (.int k n) = true := by simp only [LV.closedR, LV.closedC, LV.closed]
theorem closedR_bool (b) : LV.closedR (.bool b) = true := by simp only [LV.closedR, LV.closedC, LV.closed]
theorem closedR_str (b) : LV.closedR (.str b) = true := by simp only [LV.closedR, LV.closedC, LV.closed]
theorem closedR_vs (b) : LV.closedR (.vs b) = true := by simp only [LV.closedR, LV.closedC, LV.closed]
theorem closedR_fn (a b c) : LV.closedR (.fn a b c) = (LV.closeds b && LV.closeds c) := by simp only [LV.closedR, LV.closedC, LV.closed]
theorem endReg_eq (mask drop s) : endReg mask drop s = dropK drop (maskK mask s) := rfl
theorem maskK_some (ks T F O lvl) : maskK (some ks) ⟨T, F, O, lvl⟩ = ⟨keep T ks, F, O, lvl⟩ := rfl
theorem dropK_nil (s) : dropK [] s = s := rfl
theorem dropK_cons (T : Env) (F : List Env) (O : Heap) (lvl : Nat) (d l) : dropK (d :: l) ⟨T, F, O, lvl⟩ = St.frees (slotIds lvl (d :: l) O) ⟨T, F, O, lvl⟩ := rfl
theorem keep_nil (T) : keep T [] = [] := rfl
theorem keep_cons (T k l) : keep T (k :: l) = (k, tget T k) :: keep T l := rfl
theorem slotIds_nil (lvl drop) : slotIds lvl drop [] = [] := rfl
theorem slotIds_cons (lvl drop k o l) : slotIds lvl drop ((k, o) :: l) = if drop.contains (k / 256 - lvl * 4096) = true then k :: slotIds lvl drop l else slotIds lvl drop l := rfl
theorem regR_eq (mask drop s) : regR mask drop s = some (.ex .nrm (endReg mask drop s)) := rfl
theorem res1_t (s n) : res1 s (.t n) = some (tget s.T n) := rfl
theorem res1_cell (s ag n a) : res1 s (.cell ag n a) = rd s.O ag n (tget s.T a) := rfl
theorem resultsL_nil (s) : resultsL s [] = some [] := rfl
theorem resultsL_cons (s r l) : resultsL s (r :: l) = (res1 s r).bind (resultsK (resultsL s l)) := rfl
theorem resultsK_eq (k v) : resultsK k v = k.bind (consV v) := rfl
theorem consV_eq (v l) : consV v l = some (v :: l) := rfl
theorem numArgs_nil (i) : numArgs i [] = [] := rfl
theorem numArgs_cons (i v l) : numArgs i (v :: l) = (i, v) :: numArgs (i + 1) l := rfl
end
end Go.Zv
