/- The engine, part 4b: the rules in one set. -/
import Derived.Attr
import Derived.Test.YtjmnepfdhkabfaaZvD
namespace Go.Zv
set_option autoImplicit false
attribute [go_sem] callK_eq callK_prim primK_eq fnK_nrm fnK_ret expK_1 expK_2 expK_0 K_skip K_reg K_seq seqK_nrm seqK_ret seqK_exit K_cond condR_bool K_block blockR_nrm blockR_ret blockR_exit
attribute [go_sem] loopK_nrm loopK_ret loopK_exit K_scope K_exit K_ret callClosed_run bind_ite runOps_nil runOps_cons grdK_eq putK_eq putT_some putT_none wanted_none wanted_some wantV_bool wantV_undef tget_nil tget_cons
attribute [go_sem] oget_nil oget_cons oset_cons odel_nil odel_cons ev_t ev_c ev_fu evs_nil evs_cons ok1_eq okU_eq runQ_none runQ_some zip_cons zip_nil dsts_nil dsts_some dsts_none runD_nil
attribute [go_sem] runD_cons grdD_eq chkOp_free chkOp_dr filtO_nil filtO_cons dNew_eq putO_none dRows_nil dRows_cons dRowsK_none dBox_eq dBoxK_eq dBsl_eq dImp_tup dImp_agg dImp1_agg dImp_int dImp1_int dImp_bool
attribute [go_sem] dImp1_bool dImp_str dImp1_str dImp_vs dImp1_vs dImp_fn dImp1_fn dImp_nilf dImp1_nilf dImp_nul dImp1_nul dImp_emp dImp1_emp dImp_undef dImp1_undef dImp_nilp dImp1_nilp dImp_nilm dImp1_nilm dImp_any
attribute [go_sem] dImp1_any dImp_fp dImp1_fp dImp_os dImp1_os dImps_nil dImps_cons dImpsK_eq dTup_eq dAfter_eq dCall_run dCal_eq dSetBox_eq dSetRow_eq dSetElt_eq apartId_ptr apartId_ep apartId_fp apartQs_nil apartQs_cons
attribute [go_sem] dStore_ptr dStore_ep inSlot_eq apartV_ptr apartV_ep apartV_fp dMks_int do_mks true_or or_true false_or or_false do_as do_alloc do_box do_bsl do_store do_call do_cal do_mv
attribute [go_sem] do_pick do_build do_load do_nilc do_bin do_bib do_eqa do_un do_conv do_b2s do_mkf do_sls do_slt do_sla do_fad do_fld do_ias do_iaa do_ixa do_ixt
attribute [go_sem] do_lkp do_zc do_capn do_isn do_ext do_len do_lena do_mn do_mx lenOf_mp lenOf_nilm lenMp_eq lkpV_nilm lkpV_mp lkpO_eq eqKey_eq isAg_agg isAg_int isAg_str isAg_bool
attribute [go_sem] lookupE_nil lookupE_cons lookK_eq lkpK_some lkpK_none mpuV_mp mpuO_eq mpuK_eq updE_nil updE_cons updK_eq consE_eq so_mv so_as so_pick so_alloc so_box so_build so_bsl so_load
attribute [go_sem] so_store so_nilc so_bin so_bib so_eqa so_un so_conv so_b2s so_mkf so_mkm so_mks so_sls so_slt so_sla so_fad so_fld so_ias so_iaa so_ixa so_ixt
attribute [go_sem] so_lkp so_mpu so_zc so_capn so_isn so_ext so_call so_cal so_len so_lena so_app so_apz so_cpy so_mn so_mx binI_add binI_sub binI_mul binI_quo binI_rem
attribute [go_sem] binI_and binI_or binI_xor binI_eql binI_neq binI_lss binI_leq binI_gtr binI_geq bin_int bin_str bibV_eq binT_eql binT_neq pickV_eq aggK_eq intK_eq eqaK_f eqaK_t eqaV_eq
attribute [go_sem] eq1_int eq1_bool eq1_str eqs_nil eqs_cons andK_some unV_neg unV_not convV_eq cells_agg cells_int cells_bool cells_str cells_vs cells_nils cells_nilp cells_nilf cells_nilm cells_bs cells_ptr
attribute [go_sem] cells_fp cells_fn cells_mp rd_ptr rd_ep rd_fp boxPart_eq rowPart_eq optPart_eq part_t part_f wr_eq wrAt_ptr wrAt_ep wrBox_eq setBox_eq wrRow_eq setRow_eq setElt_eq setAt_eq
attribute [go_sem] closeCells_eq closedK_eq closeRows_nil closeRows_cons rowsK_eq rowsK1_eq isNils_nils nilSt_nils isNils_nul isNils_emp isNils_int isNils_bool isNils_str isNils_agg isNils_tup isNils_vs isNils_bs isNils_bb isNils_ptr isNils_ep
attribute [go_sem] isNils_fp isNils_fn isNils_nilp isNils_nilf isNils_nilm isNils_mp isNils_any isNils_undef isNils_yl rowsOf_nil rowsOf_cons consC_eq new_eq push_eq free_eq freeO_none freeO_some sub_eq repOf_box repOf_row
attribute [go_sem] repOf_map repOf_loop frees_nil frees_cons esub_nil esub_cons essub_nil essub_cons hsub_nil hsub_cons osub_box osub_row osub_map osub_loop rbs_kill rbs_frz rep_kill rep_frz boxV_eq boxK_eq
attribute [go_sem] asV_eq bslK_eq bslJ_some bslJ_none bslJ_ite bslB_eq List.flatten_cons List.flatten_nil rowK_eq fill_nil fill_cons fillK_eq fillS_nil fillS_cons fillSK_eq fadV_ptr fadV_ep fadV_fp fldV_agg iasV_int iasI_vs iasI_bs iasRow_eq iasI_bb eltK_eq iaaV_int
attribute [go_sem] iaaI_ptr iaaI_ep iaaI_fp ixaV_int ixtV_int ixtI_str u8K_eq zcV_vs zcV_bs zcV_nils capV_nils isnV_nul isnV_emp isnV_vs extV_tup lenOf_vs lenOf_bs lenOf_bb lenOf_nils lenOf_nul
attribute [go_sem] lenOf_emp lenOf_str elems_vs elems_nils elems_nul elems_emp elems_bs elems_bb elems_str rowElems_eq map_ite afterIn_eq popK_eq idsFrom_nil idsFrom_cons LV.apart LV.aparts bne_iff_ne ne_eq not_false_eq_true
attribute [go_sem] boxElemsC_eq vsK_some chunk_zero chunk_succ appK_eq appV_nils appV_bs appO_row allLen_eq apzV_int mksV_int cpyK_eq cpyV_bs cpyO_row foldV_cons fold2_nil fold2_cons bnd_none bnd_some bndV_int
attribute [go_sem] cut_eq cutK_eq cutK2_eq slsV_vs slsV_bs slsV_bb slsRow_eq slsV_nils cutNil_eq sltV_str slaV_ptr slaV_fp cutVs_eq cutBs_eq cutStr_eq cutBb_eq cutFp_eq callFn_eq callV_fn afterPure_eq
attribute [go_sem] import_tup import_agg import_int import_bool import_str import_vs import_fn import_os import_om tupK_eq imports_nil imports_cons importsK_eq import1_agg import1_int import1_bool import1_str import1_vs import1_os
attribute [go_sem] import1_om exportV_eq chkR_eq exportR_tup exportR_agg exportR_int exportR_bool exportR_str exportR_vs exportR_fn exportR_nils exportR_os exportR_bs exportR_mp expBs_row expMp_map exports_nil exports_cons exportsK_eq export1_agg
attribute [go_sem] export1_fn delIds_nil delIds_cons export1_int export1_bool export1_str export1_vs export1_nils export1_os export1_bs export1_mp closedC_os closedC_om closedC_agg closedC_int closedC_bool closedC_str closedC_vs closedC_fn closedC_nul
attribute [go_sem] closedC_emp closedC_nilf closedC_nilp closedR_os closedR_om closedR_tup closedR_agg closedR_int closedR_bool closedR_str closedR_vs closedR_fn endReg_eq maskK_some dropK_nil dropK_cons keep_nil keep_cons slotIds_nil slotIds_cons
attribute [go_sem] regR_eq res1_t res1_cell resultsL_nil resultsL_cons resultsK_eq consV_eq numArgs_nil numArgs_cons Option.bind_some Option.bind_none Option.map_some Option.map_none Bool.and_true Bool.true_and Bool.and_false Bool.false_and Bool.or_true Bool.or_false Bool.true_or
attribute [go_sem] Bool.false_or Option.getD_some Option.getD_none Nat.add_zero Nat.zero_add Nat.zero_mul Nat.mul_zero Nat.sub_zero Nat.le_refl List.all_cons List.all_nil List.length_cons List.length_nil List.take_succ_cons List.take_zero List.drop_succ_cons List.drop_zero List.take_nil List.drop_nil List.cons_append
attribute [go_sem] List.nil_append List.append_nil List.getElem?_cons_succ List.getElem?_cons_zero List.getElem?_nil and_self and_true true_and false_and and_false or_self List.contains_cons List.contains_nil List.isEmpty_nil List.isEmpty_cons List.replicate_succ List.replicate_zero List.set_cons_zero List.set_cons_succ beq_self_eq_true
attribute [go_sem] Bool.false_eq_true LV.one LV.sub LV.subs LV.closed LV.closeds LV.closedRs LV.cl LV.cls LV.ids LV.idss LV.noVs LV.noVss isShf oid Bool.not_true Bool.not_false Int.toNat_natCast decide_true decide_false
attribute [go_sem] if_true if_false
attribute [go_sem] loopF_nrm loopF_ret loopF_exit
abbrev w64 (n : Int) : Int := IntKind.i64.wrap n
attribute [go_sem] w64
theorem wrap_small {n : Int} (h1 : -9223372036854775808 ≤ n) (h2 : n ≤ 9223372036854775807) : IntKind.i64.wrap n = n := by
  simp [IntKind.wrap, IntKind.signed, IntKind.bits]; omega
attribute [go_sem] wrap_small Int.cast_ofNat_Int Int.natCast_zero Int.natCast_one
attribute [go_sem] List.take_length
theorem tbf : (true != false) = true := rfl
theorem fbf : (false != false) = false := rfl
theorem tbt : (true != true) = false := rfl
theorem fbt : (false != true) = true := rfl
attribute [go_sem] tbf fbf tbt fbt
attribute [congr] ite_congr
attribute [go_sem] decide_eq_true_eq ge_iff_le gt_iff_lt beq_iff_eq
end Go.Zv
