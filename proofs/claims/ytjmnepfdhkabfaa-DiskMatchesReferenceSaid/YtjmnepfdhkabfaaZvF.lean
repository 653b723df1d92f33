/- The engine, part 4c: the rules for a call that shares its caller's memory and for a range over a function. -/
import Derived.Test.YtjmnepfdhkabfaaZvE
namespace Go.Zv
set_option autoImplicit false
variable {E : FuncId → Option AFn}
theorem Run_code (c : ACode) (s : St) : Run E (.code c s) = K E c s := rfl
noncomputable def fnR (E : FuncId → Option AFn) (args : List LV) (lvl : Nat) (F : List Env) (O : Heap) (fn : AFn) : Option Out := fnBeg (Run E) args lvl F O fn
theorem Run_fn (f args lvl F O) : Run E (.fn f args lvl F O) = (E f).bind (fnR E args lvl F O) := by rw [Run_eq]; rfl
theorem fnR_code (args lvl F O res body) : fnR E args lvl F O (.code res body) = (K E body ⟨numArgs 0 args, F, O, lvl⟩).bind (fnEnd res) := rfl
theorem fnEnd_nrm (res) (s : St) : fnEnd res (.ex .nrm s) = endFn res s := rfl
theorem fnEnd_ret (res) (s : St) : fnEnd res (.ex .ret s) = endFn res s := rfl
theorem endFn_eq (res) (s : St) : endFn res s = (resultsL s res).bind (outK s) := rfl
theorem outK_0 (T F O lvl) : outK ⟨T, F, O, lvl⟩ [] = some (.res (.tup []) F O) := rfl
theorem outK_1 (T F O lvl v) : outK ⟨T, F, O, lvl⟩ [v] = some (.res v F O) := rfl
theorem outK_2 (T F O lvl v w l) : outK ⟨T, F, O, lvl⟩ (v :: w :: l) = some (.res (.tup (v :: w :: l)) F O) := rfl
theorem wit_eq (id T F O lvl) : wit id ⟨T, F, O, lvl⟩ = ⟨T, [(0, .yl id)] :: F, O, lvl⟩ := rfl
theorem unwit_eq (id T V F O lvl) : unwit id ⟨T, V :: F, O, lvl⟩ = if isYl id (tget V 0) = true then some ⟨T, F, O, lvl⟩ else none := rfl
theorem isYl_yl (id i) : isYl id (.yl i) = (i == id) := rfl
theorem callV_yl (fz id l args) (T : Env) (F : List Env) (O : Heap) (lvl : Nat) : callV (Run E) fz id (.yl l) args ⟨T, F, O, lvl⟩ = (Run E (.rnd l args (lvl + 1) (T :: F) O)).bind (afterIn lvl) := rfl
theorem K_rf (rid f ps a b) (T : Env) (F : List Env) (O : Heap) (lvl : Nat) : K E (.rf rid f ps a b) ⟨T, F, O, lvl⟩ = rfK (Run E) (oid lvl 4000 + rid) (oid lvl 4001) f (begRf (oid lvl 4000 + rid) ps a b ⟨T, F, O, lvl⟩) := by unfold K; rw [Run_eq]; rfl
theorem rfK_eq (R : Orc) (id id2 f) (s : St) : rfK R id id2 f s = (callV R true id2 (f.ev s.T) [.yl id] (wit id s)).bind (endRfR id) := rfl
theorem begRf_eq (id ps a b) (s : St) : begRf id ps a b s = begRf2 id ps a b (St.free id s) := rfl
theorem begRf2_eq (id ps a b T F O lvl) : begRf2 id ps a b ⟨T, F, O, lvl⟩ = ⟨T, F, (id, .loop T ps a b .ready .nrm) :: O, lvl⟩ := rfl
theorem endRfR_eq (id v) (s : St) : endRfR id (v, s) = (unwit id s).bind (endRf id) := rfl
theorem endRf_eq (id) (s : St) : endRf id s = endRfK id s (oget s.O id) := rfl
theorem endRfK_loop (id T ps a b st p) (s : St) : endRfK id s (some (.loop T ps a b st p)) = if st = .busy then none else some (.ex p (St.free id s)) := rfl
noncomputable def rndR (E : FuncId → Option AFn) (id : Nat) (args : List LV) (lvl : Nat) (F : List Env) (O : Heap) (o : Option Obj) : Option Out := rndBeg (Run E) id args lvl F O o
theorem Run_rnd (id args lvl F O) : Run E (.rnd id args lvl F O) = rndR E id args lvl F O (oget O id) := by rw [Run_eq]; rfl
noncomputable def rndA (E : FuncId → Option AFn) (id : Nat) (body : ACode) (o : Out) : Option Out := rndAsg (Run E) id body o
theorem rndR_ready (id args lvl F O T ps a b p) : rndR E id args lvl F O (some (.loop T ps a b .ready p)) =
    if ps.length = args.length then (K E a (wit id ⟨(ps.zip args).reverse ++ T, F, O, lvl⟩)).bind (rndA E id b) else none := rfl
noncomputable def rndM (E : FuncId → Option AFn) (id : Nat) (body : ACode) (s : St) (o : Option Obj) : Option Out := rndMid (Run E) id body s o
noncomputable def rndM1 (E : FuncId → Option AFn) (id : Nat) (body : ACode) (s : St) : Option Out := rndM E id body s (oget s.O id)
theorem rndM1_eq (id body) (s : St) : rndM1 E id body s = rndM E id body s (oget s.O id) := rfl
theorem rndA_nrm (id body) (s : St) : rndA E id body (.ex .nrm s) = (unwit id s).bind (rndM1 E id body) := rfl
theorem rndM_ready (id body T F O lvl U ps a b p) : rndM E id body ⟨T, F, O, lvl⟩ (some (.loop U ps a b .ready p)) =
    (K E body ⟨T, [(0, .yl id)] :: F, oset O id (.loop U ps a b .busy p), lvl⟩).bind (rndBody id) := rfl
theorem rndBody_ex (id e) (s : St) : rndBody id (.ex e s) = (unwit id s).bind (endRnd id e) := rfl
theorem endRnd_eq (id e) (s : St) : endRnd id e s = endRndK id e s (oget s.O id) := rfl
theorem endRndK_nrm (id T ps a b p) (s : St) : endRndK id .nrm s (some (.loop T ps a b .busy p)) = some (.res (.bool true) s.F (oset s.O id (.loop T ps a b .ready .nrm))) := rfl
theorem endRndK_ret (id T ps a b p) (s : St) : endRndK id .ret s (some (.loop T ps a b .busy p)) = some (.res (.bool false) s.F (oset s.O id (.loop T ps a b .done .ret))) := rfl
theorem endRndK_exit (id i T ps a b p) (s : St) : endRndK id (.exit i) s (some (.loop T ps a b .busy p)) = some (.res (.bool false) s.F (oset s.O id (.loop T ps a b .done (.exit i)))) := rfl
theorem vsK_none (x : LV) : vsK x none = x := rfl
attribute [go_sem] vsK_none bne_self_eq_false
attribute [go_sem] Run_code Run_fn fnR_code fnEnd_nrm fnEnd_ret endFn_eq outK_0 outK_1 outK_2 wit_eq unwit_eq isYl_yl callV_yl K_rf rfK_eq begRf_eq begRf2_eq endRfR_eq endRf_eq endRfK_loop Run_rnd rndR_ready rndM1_eq rndA_nrm rndM_ready rndBody_ex endRnd_eq endRndK_nrm endRndK_ret endRndK_exit
attribute [go_sem] List.zip_cons_cons List.zip_nil_left List.zip_nil_right List.reverse_cons List.reverse_nil
/-! closed at birth -/
def dMksF (z : List LV) (s : St) : LV → LV → Option (LV × St)
  | .int _ n, .int _ m => if 0 ≤ n ∧ n ≤ m ∧ m ≤ 1000000000 ∧ LV.closeds (LV.cls [] z) = true ∧ (LV.cls [] z).all LV.one = true then some (.vs (List.replicate n.toNat (LV.cls [] z)), s) else none
  | _, _ => none
theorem dMksF_int (z : List LV) (s : St) (k n k' m) : dMksF z s (.int k n) (.int k' m) = if 0 ≤ n ∧ n ≤ m ∧ m ≤ 1000000000 ∧ LV.closeds (LV.cls [] z) = true ∧ (LV.cls [] z).all LV.one = true then some (.vs (List.replicate n.toNat (LV.cls [] z)), s) else none := rfl
theorem frz_ap (T : Env) (F : List Env) (O : Heap) (lvl : Nat) (id st : Nat) (xs : List (List LV)) (n : Nat) : ((some (⟨.bs id 0 n, [(id, .row st xs)], none⟩ : Dl)).bind frzDl).bind (applyD ⟨T, F, O, lvl⟩) = if n = xs.length then some (.vs xs, ⟨T, F, O, lvl⟩) else none := by
  simp only [Option.bind_some, frzDl, true_and]
  split <;> rfl
theorem dF_mks (R : Orc) (un qs d st z a b) (T : Env) (F : List Env) (O : Heap) (lvl : Nat) : dOpF R un qs d (.mks st z a b) ⟨T, F, O, lvl⟩ = dMksF z ⟨T, F, O, lvl⟩ (a.ev T) (b.ev T) := by
  show ((deltaMks (oid lvl d) z (a.ev T) (b.ev T)).bind frzDl).bind (applyD ⟨T, F, O, lvl⟩) = _
  cases a.ev T <;> try rfl
  cases b.ev T <;> try rfl
  simp only [deltaMks, dMksF]
  split
  · rw [frz_ap, if_pos (by simp)]
  · rfl
def dBslF (n : Nat) (s : St) (xs : List (List LV)) : Option (LV × St) := if (xs.all fun x => LV.closeds x && x.all LV.one) = true then if n = xs.length then some (.vs xs, s) else none else none
theorem dBslF_eq (n s xs) : dBslF n s xs = if (xs.all fun x => LV.closeds x && x.all LV.one) = true then if n = xs.length then some (.vs xs, s) else none else none := rfl
theorem dF_bsl (R : Orc) (un qs d st n z ps) (T : Env) (F : List Env) (O : Heap) (lvl : Nat) : dOpF R un qs d (.bsl st n z ps) ⟨T, F, O, lvl⟩ =
    if (LV.closeds (ps.map fun p => p.2.ev T)) = true then if z.length = st then (fillS st T ps (List.replicate n z)).bind (dBslF n ⟨T, F, O, lvl⟩) else none else none := by
  have e : (ps.all fun p => LV.closed (p.2.ev T)) = LV.closeds (ps.map fun p => p.2.ev T) := by
    induction ps with
    | nil => rfl
    | cons p ps ih => simp only [List.all_cons, List.map_cons, LV.closeds, ih]
  show (if (ps.all fun p => LV.closed (p.2.ev T)) = true then (if z.length = st then (fillS st T ps (List.replicate n z)).bind (deltaBsl (oid lvl d) st n) else none).bind frzDl else none).bind (applyD ⟨T, F, O, lvl⟩) = _
  rw [e]
  split
  · split
    · cases fillS st T ps (List.replicate n z) with
      | none => rfl
      | some xs =>
        simp only [Option.bind_some, deltaBsl, dBslF]
        split
        · rw [frz_ap]
        · rfl
    · rfl
  · rfl
def dAfterF (s : St) : LV → Option (LV × St)
  | .os _ xs => some (.vs xs, s)
  | _ => none
theorem dAfterF_os (s st xs) : dAfterF s (.os st xs) = some (.vs xs, s) := rfl
theorem frz_none (v : LV) (l : List (Nat × Obj)) (h : l = [] ∨ ∃ vs, v = .tup vs) : frzDl ⟨v, l, none⟩ = none := by
  rcases h with rfl | ⟨vs, rfl⟩
  · unfold frzDl; split <;> simp_all
  · unfold frzDl; split <;> simp_all
theorem dF_call (un qs d f args) (T : Env) (F : List Env) (O : Heap) (lvl : Nat) : dOpF (Run E) un qs d (.call f args) ⟨T, F, O, lvl⟩ =
    if (LV.idss (evs T args)).isEmpty = true then if LV.closeds (LV.cls (filtO lvl un O) (evs T args)) = true then (pc E f (LV.cls (filtO lvl un O) (evs T args))).bind (dAfterF ⟨T, F, O, lvl⟩) else none else none := by
  show (if (LV.idss (evs T args)).isEmpty = true then (deltaCall (Run E) (oid lvl d) f (LV.idss (evs T args)).isEmpty (LV.cls (filtO lvl un O) (evs T args))).bind frzDl else none).bind (applyD ⟨T, F, O, lvl⟩) = _
  split
  · rename_i hi
    unfold deltaCall
    split
    · show (((pc E f (LV.cls (filtO lvl un O) (evs T args))).bind (deltaAfter (oid lvl d) (LV.idss (evs T args)).isEmpty)).bind frzDl).bind _ = _
      cases pc E f (LV.cls (filtO lvl un O) (evs T args)) with
      | none => rfl
      | some r =>
        simp only [Option.bind_some, deltaAfter, hi, Bool.true_or, if_true]
        cases r with
        | os st xs =>
          simp only [impN, imp1N, Option.map_some]
          rw [frz_ap, if_pos rfl]; rfl
        | om es => rfl
        | tup vs =>
          simp only [impN]
          split
          · cases impsN (oid lvl d) vs with
            | none => rfl
            | some q => simp only [Option.map_some, Option.bind_some]; rw [frz_none _ _ (.inr ⟨_, rfl⟩)]; rfl
          · rfl
        | _ =>
          simp only [impN, imp1N, Option.map_some, Option.bind_some]
          rw [frz_none _ _ (.inl rfl)]; rfl
    · rfl
  · rfl
attribute [go_sem] grdK_f closeV_f closeV1_eq chkOp_freeF chkOp_drF dMksF_int dF_mks dBslF_eq dF_bsl dF_call dAfterF_os List.map_cons List.map_nil
end Go.Zv
