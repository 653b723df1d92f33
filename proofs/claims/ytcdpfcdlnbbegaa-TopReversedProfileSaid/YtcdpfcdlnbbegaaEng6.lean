/- Part of the proof: the evaluation of the program's code and its tie to the machine, or what functions of the program compute over it. -/
import Derived.Attr
import Derived.Test.YtcdpfcdlnbbegaaEng1
/- The engine, part 4b: the rules in one set. -/
namespace Go.Zv
set_option autoImplicit false
attribute [go_sem] callK_eq callK_two codeK_eq twoR_eq impE_eq isE_nil isE_cons same_nil fnK_nrm fnK_ret expK_1 expK_2 expK_0 K_skip K_reg K_seq seqK_nrm seqK_ret seqK_exit K_cond condR_bool K_block blockR_nrm blockR_ret blockR_exit
attribute [go_sem] loopK_nrm loopK_ret loopK_exit K_scope K_exit K_ret callClosed_run bind_ite runOps_nil runOps_cons grdK_eq putK_eq putT_some putT_none wanted_none wanted_some wantV_bool wantV_undef tget_nil tget_cons
attribute [go_sem] oget_nil oget_cons oset_cons odel_nil odel_cons ev_t ev_c ev_fu evs_nil evs_cons ok1_eq okU_eq runQ_none runQ_nil runQ_free runQ_dr runQ_loc runQ_alt runAlt1_cons runAlts_nil runAlts_cons nthOps_nil nthK_some nthOps_cons sameSt_eq tAgr_nil tAgr_cons oAgr_nil oAgr_cons oSame_some oSame_none LV.same_self fSame_self oSame_box oSame_row oSame_map zip_cons zip_nil dsts_nil dsts_some dsts_none runD_nil
attribute [go_sem] runD_cons grdD_eq chkOp_free chkOp_dr filtO_nil filtO_cons dNew_eq putO_none dRows_nil dRows_cons dRowsK_none dBox_eq dBoxK_eq dBsl_eq dImp_tup dImp_agg dImp1_agg dImp_int dImp1_int dImp_bool
attribute [go_sem] dImp1_bool dImp_str dImp1_str dImp_vs dImp1_vs dImp_fn dImp1_fn dImp_nilf dImp1_nilf dImp_nul dImp1_nul dImp_emp dImp1_emp dImp_undef dImp1_undef dImp_nilp dImp1_nilp dImp_nilm dImp1_nilm dImp_any
attribute [go_sem] dImp_om dImp1_om dImp1_any dImp_fp dImp1_fp dImp_os dImp1_os dImps_nil dImps_cons dImpsK_eq dTup_eq dAfter_eq dCall_run dCal_eq dSetBox_eq dSetRow_eq dSetElt_eq apartId_ptr apartId_ep apartId_fp apartQs_nil apartQs_cons
attribute [go_sem] dStore_ptr dStore_ep inSlot_eq apartV_ptr apartV_ep apartV_fp dMks_int do_mks true_or or_true false_or or_false do_as do_alloc do_box do_bsl do_store do_call do_cal do_mv
attribute [go_sem] do_pick do_build do_load do_nilc do_bin do_bib do_eqa do_un do_conv do_b2s do_mkf do_sls do_slt do_sla do_fad do_fld do_ias do_iaa do_ixa do_ixt
attribute [go_sem] do_lkp do_zc do_capn do_isn do_ext do_len do_lena do_mn do_mx lenOf_mp lenOf_nilm lenMp_eq lkpV_nilm lkpV_mp lkpO_eq eqKey_eq isAg_agg isAg_int isAg_str isAg_bool
attribute [go_sem] lookupE_nil lookupE_cons lookK_eq lkpK_some lkpK_none mpuV_mp mpuO_eq mpuK_eq updE_nil updE_cons updK_eq consE_eq so_mv so_as so_pick so_alloc so_box so_build so_bsl so_load
attribute [go_sem] so_store so_nilc so_bin so_bib so_eqa so_un so_conv so_b2s so_mkf so_mkm so_mks so_sls so_slt so_sla so_fad so_fld so_ias so_iaa so_ixa so_ixt
attribute [go_sem] so_lkp so_mpu so_zc so_capn so_isn so_ext so_call so_cal so_len so_lena so_app so_apz so_cpy so_mn so_mx binI_add binI_sub binI_mul binI_quo binI_rem
attribute [go_sem] binI_and binI_or binI_xor binI_eql binI_neq binI_lss binI_leq binI_gtr binI_geq bin_int bin_str bibV_eq binT_eql binT_neq pickV_eq aggK_eq intK_eq eqaK_f eqaK_t eqaV_eq
attribute [go_sem] eq1_int eq1_bool eq1_str eqs_nil eqs_cons andK_some unV_neg unV_not convV_eq cells_agg cells_int cells_bool cells_str cells_vs cells_nils cells_nilp cells_nilf cells_nilm cells_bs cells_ptr
attribute [go_sem] cells_fp cells_fn cells_mp rd_ptr rd_ep rd_fp boxPart_eq rowPart_eq optPart_eq part_t part_f wr_eq wrAt_ptr wrAt_ep wrBox_eq setBox_eq wrRow_eq setRow_eq setElt_eq setAt_eq
attribute [go_sem] closeCells_eq closedK_eq closeRows_nil closeRows_cons rowsK_eq rowsK1_eq isNils_nils nilSt_nils isNils_nul isNils_emp isNils_int isNils_bool isNils_str isNils_agg isNils_tup isNils_vs isNils_bs isNils_bb isNils_ptr isNils_ep
attribute [go_sem] isNils_fp isNils_fn isNils_nilp isNils_nilf isNils_nilm isNils_mp isNils_any isNils_undef isNils_yl rowsOf_nil rowsOf_cons consC_eq new_eq push_eq free_eq freeO_none freeO_some sub_eq repOf_box repOf_row
attribute [go_sem] repOf_map repOf_loop frees_nil frees_cons esub_nil esub_cons essub_nil essub_cons hsub_nil hsub_cons osub_box osub_row osub_map osub_loop rbs_kill rbs_frz rep_kill rep_frz rptr_kill rptr_frz rptr_fbx freeB_eq freeW_none freeW_some repB_box repB_row dropB_eq boxV_eq boxK_eq
attribute [go_sem] asV_eq bslK_eq bslJ_some bslJ_none bslJ_ite bslB_eq List.flatten_cons List.flatten_nil rowK_eq fill_nil fill_cons fillK_eq fillS_nil fillS_cons fillSK_eq fadV_ptr fadV_ep fadV_fp fldV_agg iasV_int iasI_vs iasI_bs iasRow_eq iasI_bb eltK_eq iaaV_int
attribute [go_sem] iaaI_ptr iaaI_ep iaaI_fp ixaV_int ixtV_int ixtI_str u8K_eq zcV_vs zcV_bs zcV_nils capV_nils capV_nul slsV_nul appV_nul isnV_nul isnV_emp isnV_vs extV_tup lenOf_vs lenOf_bs lenOf_bb lenOf_nils lenOf_nul
attribute [go_sem] lenOf_emp lenOf_str elems_vs elems_nils elems_nul elems_emp elems_bs elems_bb elems_str rowElems_eq map_ite afterIn_eq popK_eq idsFrom_nil idsFrom_cons LV.apart LV.aparts bne_iff_ne ne_eq not_false_eq_true
attribute [go_sem] boxElemsC_eq vsK_some chunk_zero chunk_succ appK_eq appV_nils appV_bs appO_row allLen_eq apzV_int mksV_int cpyK_eq cpyV_bs cpyO_row foldV_cons fold2_nil fold2_cons bnd_none bnd_some bndV_int
attribute [go_sem] cut_eq cutK_eq cutK2_eq slsV_vs slsV_bs slsV_bb slsRow_eq slsV_nils cutNil_eq sltV_str slaV_ptr slaV_fp cutVs_eq cutBs_eq cutStr_eq cutBb_eq cutFp_eq callFn_eq callV_fn afterPure_eq
attribute [go_sem] import_tup import_agg import_int import_bool import_str import_vs import_fn import_os import_om tupK_eq imports_nil imports_cons importsK_eq import1_agg import1_int import1_bool import1_str import1_vs import1_os
attribute [go_sem] import1_om exportV_eq chkR_eq exportR_tup exportR_agg exportR_int exportR_bool exportR_str exportR_vs exportR_fn exportR_nils exportR_os exportR_bs exportR_mp expBs_row expMp_map exports_nil exports_cons exportsK_eq export1_agg
attribute [go_sem] expPs_nil expPs_cons expP_ptr fpK_box expP_vs expP_fp expP_int expP_bool expP_fn idPs_nil idPs_cons idP_ptr idP_vs idP_fp idP_int idP_bool idP_fn closed_fp
attribute [go_sem] export1_fn delIds_nil delIds_cons export1_int export1_bool export1_str export1_vs export1_nils export1_os export1_bs export1_mp closedC_os closedC_om closedC_agg closedC_int closedC_bool closedC_str closedC_vs closedC_fn closedC_nul
attribute [go_sem] closedC_emp closedC_nilf closedC_nilp closedR_os closedR_om closedR_tup closedR_agg closedR_int closedR_bool closedR_str closedR_vs closedR_fn endReg_eq maskK_some dropK_nil dropK_cons keep_nil keep_cons slotIds_nil slotIds_cons
attribute [go_sem] regR_eq res1_t res1_cell resultsL_nil resultsL_cons resultsK_eq consV_eq numArgs_nil numArgs_cons Option.bind_some Option.bind_none Option.map_some Option.map_none Bool.and_true Bool.true_and Bool.and_false Bool.false_and Bool.or_true Bool.or_false Bool.true_or
attribute [go_sem] Bool.false_or Option.getD_some Option.getD_none Nat.add_zero Nat.zero_add Nat.zero_mul Nat.mul_zero Nat.sub_zero Nat.le_refl List.all_cons List.all_nil List.length_cons List.length_nil List.take_succ_cons List.take_zero List.drop_succ_cons List.drop_zero List.take_nil List.drop_nil List.cons_append
attribute [go_sem] List.nil_append List.append_nil List.getElem?_cons_succ List.getElem?_cons_zero List.getElem?_nil and_self and_true true_and false_and and_false or_self List.contains_cons List.contains_nil List.isEmpty_nil List.isEmpty_cons List.replicate_succ List.replicate_zero List.set_cons_zero List.set_cons_succ beq_self_eq_true
attribute [go_sem] Bool.false_eq_true LV.one LV.sub LV.subs LV.closed LV.closeds LV.closedRs LV.cl LV.cls LV.ids LV.idss LV.noVs LV.noVss isShf oid Bool.not_true Bool.not_false Int.toNat_natCast decide_true decide_false
attribute [go_sem] if_true if_false
attribute [go_sem] loopF_nrm loopF_ret loopF_exit
abbrev w64 (n : Int) : Int := IntKind.i64.wrap n
attribute [go_sem] chkOp_loc lo_mv lo_bin lo_fad lo_iaa uniqK_int uniqK_bool uniqK_str uniqK_ptr uniqK_ep
attribute [go_sem] w64 cells_nul cells_emp Nat.zero_le
theorem wrap_small {n : Int} (h1 : -9223372036854775808 ≤ n) (h2 : n ≤ 9223372036854775807) : IntKind.i64.wrap n = n := by
  simp [IntKind.wrap, IntKind.signed, IntKind.bits]; omega
attribute [go_sem] wrap_small Int.cast_ofNat_Int Int.natCast_zero Int.natCast_one
attribute [go_sem] List.take_length
theorem tbf : (true != false) = true := rfl
theorem fbf : (false != false) = false := rfl
theorem tbt : (true != true) = false := rfl
theorem fbt : (false != true) = true := rfl
attribute [go_sem] tbf fbf tbt fbt
attribute [congr] ite_congr
attribute [go_sem] decide_eq_true_eq ge_iff_le gt_iff_lt beq_iff_eq
end Go.Zv

/- The engine, part 4c: the rules for a call that shares its caller's memory and for a range over a function. -/
namespace Go.Zv
set_option autoImplicit false
variable {E : FuncId → Option AFn}
theorem Run_code (c : ACode) (s : St) : Run E (.code c s) = K E c s := rfl
noncomputable def fnR (E : FuncId → Option AFn) (args : List LV) (lvl : Nat) (F : List Env) (O : Heap) (fn : AFn) : Option Out := fnBeg (Run E) args lvl F O fn
theorem Run_fn (f args lvl F O) : Run E (.fn f args lvl F O) = (E f).bind (fnR E args lvl F O) := by rw [Run_eq]; rfl
theorem fnR_code (args lvl F O res body) : fnR E args lvl F O (.code res body) = (K E body ⟨numArgs 0 args, F, O, lvl⟩).bind (fnEnd res) := rfl
theorem fnEnd_nrm (res) (s : St) : fnEnd res (.ex .nrm s) = endFn res s := rfl
theorem fnEnd_ret (res) (s : St) : fnEnd res (.ex .ret s) = endFn res s := rfl
theorem endFn_eq (res) (s : St) : endFn res s = (resultsL s res).bind (outK s) := rfl
theorem outK_0 (T F O lvl) : outK ⟨T, F, O, lvl⟩ [] = some (.res (.tup []) F O) := rfl
theorem outK_1 (T F O lvl v) : outK ⟨T, F, O, lvl⟩ [v] = some (.res v F O) := rfl
theorem outK_2 (T F O lvl v w l) : outK ⟨T, F, O, lvl⟩ (v :: w :: l) = some (.res (.tup (v :: w :: l)) F O) := rfl
theorem wit_eq (id T F O lvl) : wit id ⟨T, F, O, lvl⟩ = ⟨T, [(0, .yl id)] :: F, O, lvl⟩ := rfl
theorem unwit_eq (id T V F O lvl) : unwit id ⟨T, V :: F, O, lvl⟩ = if isYl id (tget V 0) = true then some ⟨T, F, O, lvl⟩ else none := rfl
theorem isYl_yl (id i) : isYl id (.yl i) = (i == id) := rfl
theorem callV_yl (fz id l args) (T : Env) (F : List Env) (O : Heap) (lvl : Nat) : callV (Run E) fz id (.yl l) args ⟨T, F, O, lvl⟩ = (Run E (.rnd l args (lvl + 1) (T :: F) O)).bind (afterIn lvl) := rfl
theorem K_rf (rid f ps a b) (T : Env) (F : List Env) (O : Heap) (lvl : Nat) : K E (.rf rid f ps a b) ⟨T, F, O, lvl⟩ = rfK (Run E) (oid lvl 4000 + rid) (oid lvl 4001) f (begRf (oid lvl 4000 + rid) ps a b ⟨T, F, O, lvl⟩) := by unfold K; rw [Run_eq]; rfl
theorem rfK_eq (R : Orc) (id id2 f) (s : St) : rfK R id id2 f s = (callV R true id2 (f.ev s.T) [.yl id] (wit id s)).bind (endRfR id) := rfl
theorem begRf_eq (id ps a b) (s : St) : begRf id ps a b s = begRf2 id ps a b (St.free id s) := rfl
theorem begRf2_eq (id ps a b T F O lvl) : begRf2 id ps a b ⟨T, F, O, lvl⟩ = ⟨T, F, (id, .loop T ps a b .ready .nrm) :: O, lvl⟩ := rfl
theorem endRfR_eq (id v) (s : St) : endRfR id (v, s) = (unwit id s).bind (endRf id) := rfl
theorem endRf_eq (id) (s : St) : endRf id s = endRfK id s (oget s.O id) := rfl
theorem endRfK_loop (id T ps a b st p) (s : St) : endRfK id s (some (.loop T ps a b st p)) = if st = .busy then none else some (.ex p (St.free id s)) := rfl
noncomputable def rndR (E : FuncId → Option AFn) (id : Nat) (args : List LV) (lvl : Nat) (F : List Env) (O : Heap) (o : Option Obj) : Option Out := rndBeg (Run E) id args lvl F O o
theorem Run_rnd (id args lvl F O) : Run E (.rnd id args lvl F O) = rndR E id args lvl F O (oget O id) := by rw [Run_eq]; rfl
noncomputable def rndA (E : FuncId → Option AFn) (id : Nat) (body : ACode) (o : Out) : Option Out := rndAsg (Run E) id body o
theorem rndR_ready (id args lvl F O T ps a b p) : rndR E id args lvl F O (some (.loop T ps a b .ready p)) =
    if ps.length = args.length then (K E a (wit id ⟨(ps.zip args).reverse ++ T, F, O, lvl⟩)).bind (rndA E id b) else none := rfl
noncomputable def rndM (E : FuncId → Option AFn) (id : Nat) (body : ACode) (s : St) (o : Option Obj) : Option Out := rndMid (Run E) id body s o
noncomputable def rndM1 (E : FuncId → Option AFn) (id : Nat) (body : ACode) (s : St) : Option Out := rndM E id body s (oget s.O id)
theorem rndM1_eq (id body) (s : St) : rndM1 E id body s = rndM E id body s (oget s.O id) := rfl
theorem rndA_nrm (id body) (s : St) : rndA E id body (.ex .nrm s) = (unwit id s).bind (rndM1 E id body) := rfl
theorem rndM_ready (id body T F O lvl U ps a b p) : rndM E id body ⟨T, F, O, lvl⟩ (some (.loop U ps a b .ready p)) =
    (K E body ⟨T, [(0, .yl id)] :: F, oset O id (.loop U ps a b .busy p), lvl⟩).bind (rndBody id) := rfl
theorem rndBody_ex (id e) (s : St) : rndBody id (.ex e s) = (unwit id s).bind (endRnd id e) := rfl
theorem endRnd_eq (id e) (s : St) : endRnd id e s = endRndK id e s (oget s.O id) := rfl
theorem endRndK_nrm (id T ps a b p) (s : St) : endRndK id .nrm s (some (.loop T ps a b .busy p)) = some (.res (.bool true) s.F (oset s.O id (.loop T ps a b .ready .nrm))) := rfl
theorem endRndK_ret (id T ps a b p) (s : St) : endRndK id .ret s (some (.loop T ps a b .busy p)) = some (.res (.bool false) s.F (oset s.O id (.loop T ps a b .done .ret))) := rfl
theorem endRndK_exit (id i T ps a b p) (s : St) : endRndK id (.exit i) s (some (.loop T ps a b .busy p)) = some (.res (.bool false) s.F (oset s.O id (.loop T ps a b .done (.exit i)))) := rfl
theorem vsK_none (x : LV) : vsK x none = x := rfl
attribute [go_sem] vsK_none bne_self_eq_false
attribute [go_sem] Run_code Run_fn fnR_code fnEnd_nrm fnEnd_ret endFn_eq outK_0 outK_1 outK_2 wit_eq unwit_eq isYl_yl callV_yl K_rf rfK_eq begRf_eq begRf2_eq endRfR_eq endRf_eq endRfK_loop Run_rnd rndR_ready rndM1_eq rndA_nrm rndM_ready rndBody_ex endRnd_eq endRndK_nrm endRndK_ret endRndK_exit
attribute [go_sem] List.zip_cons_cons List.zip_nil_left List.zip_nil_right List.reverse_cons List.reverse_nil
/-! closed at birth -/
def dMksF (z : List LV) (s : St) : LV → LV → Option (LV × St)
  | .int _ n, .int _ m => if 0 ≤ n ∧ n ≤ m ∧ m ≤ 1000000000 ∧ LV.closeds (LV.cls [] z) = true ∧ (LV.cls [] z).all LV.one = true then some (.vs (List.replicate n.toNat (LV.cls [] z)), s) else none
  | _, _ => none
theorem dMksF_int (z : List LV) (s : St) (k n k' m) : dMksF z s (.int k n) (.int k' m) = if 0 ≤ n ∧ n ≤ m ∧ m ≤ 1000000000 ∧ LV.closeds (LV.cls [] z) = true ∧ (LV.cls [] z).all LV.one = true then some (.vs (List.replicate n.toNat (LV.cls [] z)), s) else none := rfl
theorem frz_ap (T : Env) (F : List Env) (O : Heap) (lvl : Nat) (id st : Nat) (xs : List (List LV)) (n : Nat) : ((some (⟨.bs id 0 n, [(id, .row st xs)], none⟩ : Dl)).bind frzDl).bind (applyD ⟨T, F, O, lvl⟩) = if n = xs.length then some (.vs xs, ⟨T, F, O, lvl⟩) else none := by
  simp only [Option.bind_some, frzDl, true_and]
  split <;> rfl
theorem dF_mks (R : Orc) (un qs d st z a b) (T : Env) (F : List Env) (O : Heap) (lvl : Nat) : dOpF R un qs d (.mks st z a b) ⟨T, F, O, lvl⟩ = dMksF z ⟨T, F, O, lvl⟩ (a.ev T) (b.ev T) := by
  show ((deltaMks (oid lvl d) z (a.ev T) (b.ev T)).bind frzDl).bind (applyD ⟨T, F, O, lvl⟩) = _
  cases a.ev T <;> try rfl
  cases b.ev T <;> try rfl
  simp only [deltaMks, dMksF]
  split
  · rw [frz_ap, if_pos (by simp)]
  · rfl
def dBslF (n : Nat) (s : St) (xs : List (List LV)) : Option (LV × St) := if ((fixR xs).all fun x => LV.closeds x && x.all LV.one) = true then if n = (fixR xs).length then some (.vs (fixR xs), s) else none else none
theorem dBslF_eq (n s xs) : dBslF n s xs = if (xs.all fun x => LV.closeds x && x.all LV.one) = true then if n = xs.length then some (.vs xs, s) else none else if ((xs.map (LV.cls [])).all fun x => LV.closeds x && x.all LV.one) = true then if n = xs.length then some (.vs (xs.map (LV.cls [])), s) else none else none := by
  split
  · rename_i h
    unfold dBslF
    rw [fixR_closed xs h, if_pos h]
  · unfold dBslF fixR
    simp only [List.length_map]
theorem dF_bsl (R : Orc) (un qs d st n z ps) (T : Env) (F : List Env) (O : Heap) (lvl : Nat) : dOpF R un qs d (.bsl st n z ps) ⟨T, F, O, lvl⟩ =
    if (LV.closeds (ps.map fun p => p.2.ev T)) = true then if z.length = st then (fillS st T ps (List.replicate n z)).bind (dBslF n ⟨T, F, O, lvl⟩) else none else
    if (LV.closeds (ps.map fun p => LV.cl [] (p.2.ev T))) = true then if z.length = st then (fillS st T ps (List.replicate n z)).bind (dBslF n ⟨T, F, O, lvl⟩) else none else none := by
  have e : (ps.all fun p => LV.closed (LV.cl [] (p.2.ev T))) = LV.closeds (ps.map fun p => LV.cl [] (p.2.ev T)) := by
    induction ps with
    | nil => rfl
    | cons p ps ih => simp only [List.all_cons, List.map_cons, LV.closeds, ih]
  have e1 : LV.closeds (ps.map fun p => p.2.ev T) = true → LV.closeds (ps.map fun p => LV.cl [] (p.2.ev T)) = true := by
    clear e
    induction ps with
    | nil => exact fun _ => rfl
    | cons p ps ih =>
      intro h
      simp only [List.map_cons, LV.closeds, Bool.and_eq_true] at h ⊢
      exact ⟨by rw [cl_closed _ h.1]; exact h.1, ih h.2⟩
  have e2 : dOpF R un qs d (.bsl st n z ps) ⟨T, F, O, lvl⟩ = if (LV.closeds (ps.map fun p => LV.cl [] (p.2.ev T))) = true then if z.length = st then (fillS st T ps (List.replicate n z)).bind (dBslF n ⟨T, F, O, lvl⟩) else none else none := by
    show (if (ps.all fun p => LV.closed (LV.cl [] (p.2.ev T))) = true then (if z.length = st then (fillS st T ps (List.replicate n z)).bind (deltaBsl (oid lvl d) st n) else none).bind frzDl else none).bind (applyD ⟨T, F, O, lvl⟩) = _
    rw [e]
    split
    · split
      · cases fillS st T ps (List.replicate n z) with
        | none => rfl
        | some xs =>
          simp only [Option.bind_some, deltaBsl, dBslF]
          split
          · rw [frz_ap]
          · rfl
      · rfl
    · rfl
  rw [e2]
  by_cases h : LV.closeds (ps.map fun p => p.2.ev T) = true
  · rw [if_pos h, if_pos (e1 h)]
  · rw [if_neg h]
def dAfterF (s : St) : LV → Option (LV × St)
  | .os _ xs => some (.vs xs, s)
  | _ => none
theorem dAfterF_os (s st xs) : dAfterF s (.os st xs) = some (.vs xs, s) := rfl
theorem frz_none (v : LV) (l : List (Nat × Obj)) (h : l = [] ∨ ∃ vs, v = .tup vs) : frzDl ⟨v, l, none⟩ = none := by
  rcases h with rfl | ⟨vs, rfl⟩
  · unfold frzDl; split <;> simp_all
  · unfold frzDl; split <;> simp_all
theorem dF_call (un qs d f args) (T : Env) (F : List Env) (O : Heap) (lvl : Nat) : dOpF (Run E) un qs d (.call f args) ⟨T, F, O, lvl⟩ =
    if (LV.idss (evs T args)).isEmpty = true then if LV.closeds (LV.cls (filtO lvl un O) (evs T args)) = true then (pc E f (LV.cls (filtO lvl un O) (evs T args))).bind (dAfterF ⟨T, F, O, lvl⟩) else none else none := by
  show (if (LV.idss (evs T args)).isEmpty = true then (deltaCall (Run E) (oid lvl d) f (LV.idss (evs T args)).isEmpty (LV.cls (filtO lvl un O) (evs T args))).bind frzDl else none).bind (applyD ⟨T, F, O, lvl⟩) = _
  split
  · rename_i hi
    unfold deltaCall
    split
    · show (((pc E f (LV.cls (filtO lvl un O) (evs T args))).bind (deltaAfter (oid lvl d) (LV.idss (evs T args)).isEmpty)).bind frzDl).bind _ = _
      cases pc E f (LV.cls (filtO lvl un O) (evs T args)) with
      | none => rfl
      | some r =>
        simp only [Option.bind_some, deltaAfter, hi, Bool.true_or, if_true]
        cases r with
        | os st xs =>
          simp only [impN, imp1N, Option.map_some]
          rw [frz_ap, if_pos rfl]; rfl
        | om es => rfl
        | tup vs =>
          simp only [impN]
          split
          · cases impsN (oid lvl d) vs with
            | none => rfl
            | some q => simp only [Option.map_some, Option.bind_some]; rw [frz_none _ _ (.inr ⟨_, rfl⟩)]; rfl
          · rfl
        | _ =>
          simp only [impN, imp1N, Option.map_some, Option.bind_some]
          rw [frz_none _ _ (.inl rfl)]; rfl
    · rfl
  · rfl
attribute [go_sem] stepF_call grdK_f closeV_f closeV1_eq chkOp_freeF chkOp_drF dMksF_int dF_mks dBslF_eq dF_bsl dF_call dAfterF_os List.map_cons List.map_nil
theorem nilcV_ptr (i o) : nilcV (.ptr i o) = some (.ptr i o) := rfl
theorem nilcV_ep (i j o) : nilcV (.ep i j o) = some (.ep i j o) := rfl
theorem nilcV_fp (cs) : nilcV (.fp cs) = some (.fp cs) := rfl
theorem nilcV_fn (f a b) : nilcV (.fn (.func f) a b) = some (.fn (.func f) a b) := rfl
attribute [go_sem] nilcV_ptr nilcV_ep nilcV_fp nilcV_fn
end Go.Zv

/- The engine, part 31: loops: what a round does, once, gives what the loop does. -/
namespace Go.Zv
set_option autoImplicit false
theorem loop_idx {σ : Type} (G : St → Option Out) (S : Nat → σ → St) (n : Nat) (I : Nat → σ → Prop) (res : Nat → σ → Option Out)
    (stop : ∀ x, I n x → G (S n x) = res n x)
    (step : ∀ k x, k < n → I k x → G (S k x) = res k x ∨ ∃ y, I (k + 1) y ∧ G (S k x) = G (S (k + 1) y) ∧ res k x = res (k + 1) y) :
    ∀ k x, k ≤ n → I k x → G (S k x) = res k x := by
  have h : ∀ j k x, k + j = n → I k x → G (S k x) = res k x := by
    intro j
    induction j with
    | zero => intro k x hk hi; have e : k = n := by omega
              subst e; exact stop x hi
    | succ j ih =>
      intro k x hk hi
      rcases step k x (by omega) hi with h | ⟨y, h1, h2, h3⟩
      · exact h
      · rw [h2, h3]; exact ih (k + 1) y (by omega) h1
  intro k x hk; exact h (n - k) k x (by omega)
theorem drop_get {α : Type} {l : List α} {k : Nat} {p : α} (h : l[k]? = some p) : l.drop k = p :: l.drop (k + 1) := by
  obtain ⟨h1, h2⟩ := List.getElem?_eq_some_iff.1 h
  rw [List.drop_eq_getElem_cons h1, h2]
/-- a loop over a list that leaves at the first element of a kind -/
theorem loop_any {α : Type} (G : St → Option Out) (S : Nat → St) (l : List α) (P : α → Bool) (r e : Option Out)
    (stop : G (S l.length) = e)
    (step : ∀ k p, k < l.length → l[k]? = some p → G (S k) = if P p = true then r else G (S (k + 1))) : G (S 0) = if l.any P = true then r else e := by
  have := loop_idx (σ := Unit) G (fun k _ => S k) l.length (fun _ _ => True) (fun k _ => if (l.drop k).any P = true then r else e) (fun _ _ => by simp [stop]) (fun k x hk _ => by
    have hget : l[k]? = some (l[k]'hk) := List.getElem?_eq_getElem _
    have hs := step k _ hk hget
    have hd := drop_get hget
    generalize l[k]'hk = p at *
    cases hp : P p with
    | true => left; rw [hs, hd]; simp [hp]
    | false => right; refine ⟨(), trivial, ?_, ?_⟩
               · rw [hs, hp]; simp
               · simp only [hd, List.any_cons, hp, Bool.false_or]) 0 () (by omega) trivial
  simpa using this
/-- a loop over a list that carries a state along -/
theorem loop_foldl {α σ : Type} (G : St → Option Out) (S : Nat → σ → St) (l : List α) (f : σ → α → σ) (I : σ → Prop)
    (step : ∀ k p x, k < l.length → l[k]? = some p → I x → I (f x p) ∧ G (S k x) = G (S (k + 1) (f x p))) (x : σ) (hx : I x) : G (S 0 x) = G (S l.length (l.foldl f x)) := by
  have := loop_idx G S l.length (fun _ x => I x) (fun k x => G (S l.length ((l.drop k).foldl f x))) (fun _ _ => by simp) (fun k x hk hi => by
    have hget : l[k]? = some (l[k]'hk) := List.getElem?_eq_getElem _
    have hs := step k _ x hk hget hi
    have hd := drop_get hget
    generalize l[k]'hk = p at *
    right
    exact ⟨f x p, hs.1, hs.2, by simp only [hd, List.foldl_cons]⟩) 0 x (by omega) hx
  simpa using this
theorem loop_to (G : St → Option Out) (S : Nat → St) (n : Nat) (step : ∀ k, k < n → G (S k) = G (S (k + 1))) : G (S 0) = G (S n) := by
  exact loop_idx (σ := Unit) G (fun k _ => S k) n (fun _ _ => True) (fun _ _ => G (S n)) (fun _ _ => rfl) (fun k x hk _ => .inr ⟨(), trivial, step k hk, rfl⟩) 0 () (by omega) trivial
/-- a loop whose state is told by an invariant -/
theorem loop_inv {σ : Type} (G : St → Option Out) (S : Nat → σ → St) (n : Nat) (I : Nat → σ → Prop)
    (step : ∀ k x, k < n → I k x → ∃ y, I (k + 1) y ∧ G (S k x) = G (S (k + 1) y)) (x : σ) (hx : I 0 x) : ∃ y, I n y ∧ G (S 0 x) = G (S n y) := by
  have h : ∀ j k x, k + j = n → I k x → ∃ y, I n y ∧ G (S k x) = G (S n y) := by
    intro j
    induction j with
    | zero => intro k x hk hi; have e : k = n := by omega
              subst e; exact ⟨x, hi, rfl⟩
    | succ j ih =>
      intro k x hk hi
      obtain ⟨y, h1, h2⟩ := step k x (by omega) hi
      obtain ⟨z, h3, h4⟩ := ih (k + 1) y (by omega) h1
      exact ⟨z, h3, h2.trans h4⟩
  exact h n 0 x (by omega) hx
/-- a loop that compares two lists -/
theorem loop_eq {α : Type} [DecidableEq α] (G : St → Option Out) (S : Nat → St) (a b : List α) (hl : a.length = b.length) (r e : Option Out)
    (stop : G (S a.length) = e)
    (step : ∀ k p q, k < a.length → a[k]? = some p → b[k]? = some q → G (S k) = if p = q then G (S (k + 1)) else r) : G (S 0) = if a = b then e else r := by
  have := loop_idx (σ := Unit) G (fun k _ => S k) a.length (fun _ _ => True) (fun k _ => if a.drop k = b.drop k then e else r) (fun _ _ => by
    rw [List.drop_of_length_le (by omega), List.drop_of_length_le (by omega)]; simp [stop]) (fun k x hk _ => by
    have ha : a[k]? = some (a[k]'hk) := List.getElem?_eq_getElem _
    have hb : b[k]? = some (b[k]'(by omega)) := List.getElem?_eq_getElem _
    have hs := step k _ _ hk ha hb
    have hda := drop_get ha
    have hdb := drop_get hb
    generalize a[k]'hk = p at *
    generalize b[k]'(by omega) = q at *
    by_cases hp : p = q
    · right; refine ⟨(), trivial, by rw [hs, if_pos hp], ?_⟩
      simp only [hda, hdb, List.cons.injEq, hp, true_and]
    · left; rw [hs, if_neg hp]
      simp only [hda, hdb, List.cons.injEq, hp, false_and, if_false]) 0 () (by omega) trivial
  simpa using this
/-- a loop of which a thing holds -/
theorem loop_P {σ : Type} (G : St → Option Out) (S : Nat → σ → St) (n : Nat) (I : Nat → σ → Prop) (Q : Nat → σ → Option Out → Prop)
    (stop : ∀ x, I n x → Q n x (G (S n x)))
    (step : ∀ k x, k < n → I k x → Q k x (G (S k x)) ∨ ∃ y, I (k + 1) y ∧ G (S k x) = G (S (k + 1) y) ∧ ∀ o, Q (k + 1) y o → Q k x o) :
    ∀ k x, k ≤ n → I k x → Q k x (G (S k x)) := by
  have h : ∀ j k x, k + j = n → I k x → Q k x (G (S k x)) := by
    intro j
    induction j with
    | zero => intro k x hk hi; have e : k = n := by omega
              subst e; exact stop x hi
    | succ j ih =>
      intro k x hk hi
      rcases step k x (by omega) hi with h | ⟨y, h1, h2, h3⟩
      · exact h
      · rw [h2]; exact h3 _ (ih (k + 1) y (by omega) h1)
  intro k x hk; exact h (n - k) k x (by omega)
/-- a loop over a list that carries a state along and may leave early -/
theorem loop_leave {α σ : Type} (G : St → Option Out) (S : Nat → σ → St) (l : List α) (f : σ → α → σ) (P : α → Bool) (R : Option Out → Prop) (e : σ → Option Out)
    (stop : ∀ x, G (S l.length x) = e x)
    (step : ∀ k p x, k < l.length → l[k]? = some p → (P p = true → R (G (S k x))) ∧ (P p = false → G (S k x) = G (S (k + 1) (f x p)))) (x : σ) :
    (l.any P = true → R (G (S 0 x))) ∧ (l.any P = false → G (S 0 x) = e (l.foldl f x)) := by
  have := loop_P G S l.length (fun _ _ => True) (fun k x o => ((l.drop k).any P = true → R o) ∧ ((l.drop k).any P = false → o = e ((l.drop k).foldl f x)))
    (fun x _ => by simp [stop]) (fun k x hk _ => by
      have hget : l[k]? = some (l[k]'hk) := List.getElem?_eq_getElem _
      have hs := step k _ x hk hget
      have hd := drop_get hget
      generalize l[k]'hk = p at *
      cases hp : P p with
      | true => left; rw [hd]; exact ⟨fun _ => hs.1 hp, fun h => by simp [hp] at h⟩
      | false =>
        right; refine ⟨f x p, trivial, hs.2 hp, fun o ho => ?_⟩
        rw [hd]; simpa [hp] using ho) 0 x (by omega) trivial
  simpa using this
theorem teqf : (true == false) = false := rfl
theorem feqt : (false == true) = false := rfl
theorem teqt : (true == true) = true := rfl
theorem feqf : (false == false) = true := rfl
attribute [go_sem] teqf feqt teqt feqf
end Go.Zv
