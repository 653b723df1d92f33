/- Part of the proof: the evaluation of the program's code and its tie to the machine, or what functions of the program compute over it. -/
import Derived.Attr
import Derived.Test.YtbpneedpcccpaaaGreatEng1
set_option autoImplicit false
set_option maxRecDepth 100000
set_option maxHeartbeats 4000000
set_option linter.unusedSimpArgs false
set_option linter.unusedVariables false
/- The engine, part 4b: the rules in one set. -/
namespace Go.Zv
attribute [go_sem] callK_eq fnK_ret expK_1 expK_2 K_skip K_reg K_seq seqK_nrm seqK_ret seqK_exit K_cond condR_bool K_block blockR_nrm blockR_ret blockR_exit
attribute [go_sem] K_exit K_ret callClosed_run bind_ite runOps_nil runOps_cons grdK_eq putK_eq putT_some putT_none wanted_none wanted_some wantV_bool wantV_undef tget_cons
attribute [go_sem] oget_nil oget_cons oset_cons odel_nil odel_cons ev_t ev_c ev_fu evs_nil evs_cons ok1_eq okU_eq runQ_none runQ_free runQ_dr runQ_loc LV.same_self zip_cons dsts_nil dsts_some dsts_none runD_nil
attribute [go_sem] runD_cons grdD_eq chkOp_free chkOp_dr filtO_nil filtO_cons dNew_eq putO_none dRows_nil dRows_cons dRowsK_none dBox_eq dBoxK_eq dBsl_eq dImp_agg dImp_int dImp_bool
attribute [go_sem] dImp_vs
attribute [go_sem] dAfter_eq dCall_run dSetBox_eq apartId_ptr apartQs_nil apartQs_cons
attribute [go_sem] dStore_ptr inSlot_eq apartV_ptr apartV_fp true_or or_true false_or or_false do_as do_alloc do_bsl do_store do_call do_mv
attribute [go_sem] do_build do_load do_bin do_conv do_fad do_ias do_iaa do_ixa
attribute [go_sem] do_len lkpV_mp lkpO_eq eqKey_eq isAg_agg isAg_int
attribute [go_sem] lkpK_some lkpK_none mpuV_mp mpuO_eq mpuK_eq so_mv so_as so_pick so_alloc so_box so_build so_bsl so_load
attribute [go_sem] so_store so_bin so_bib so_eqa so_un so_conv so_mkf so_mkm so_mks so_sls so_fad so_ias so_iaa so_ixa so_ixt
attribute [go_sem] so_lkp so_mpu so_ext so_call so_cal so_len so_app so_mn so_mx binI_add binI_sub binI_mul binI_quo binI_rem
attribute [go_sem] binI_eql binI_neq binI_lss binI_leq binI_gtr binI_geq bin_int bin_str bibV_eq binT_eql pickV_eq aggK_eq intK_eq eqaK_t eqaV_eq
attribute [go_sem] eq1_int eqs_nil eqs_cons andK_some unV_neg unV_not convV_eq cells_agg cells_int cells_bool cells_str cells_vs cells_nils cells_bs
attribute [go_sem] rd_ptr rd_ep rd_fp boxPart_eq rowPart_eq optPart_eq part_t part_f wr_eq wrAt_ptr wrAt_ep wrBox_eq setBox_eq wrRow_eq setRow_eq setElt_eq setAt_eq
attribute [go_sem] closeCells_eq closedK_eq closeRows_nil closeRows_cons rowsK_eq rowsK1_eq isNils_nils nilSt_nils isNils_int isNils_bool isNils_str isNils_vs isNils_bs
attribute [go_sem] isNils_fn isNils_nilf isNils_mp rowsOf_nil rowsOf_cons consC_eq new_eq push_eq free_eq freeO_none freeO_some sub_eq repOf_box repOf_row
attribute [go_sem] repOf_map repOf_loop frees_nil frees_cons esub_nil esub_cons essub_nil essub_cons hsub_nil hsub_cons osub_box osub_row osub_map osub_loop rbs_kill rbs_frz boxV_eq boxK_eq
attribute [go_sem] asV_eq bslK_eq bslJ_some Q9 List.flatten_nil rowK_eq fill_nil fill_cons fillK_eq fillS_nil fillS_cons fillSK_eq fadV_ptr fadV_ep fadV_fp fldV_agg iasV_int iasI_vs iasI_bs iasRow_eq eltK_eq iaaV_int
attribute [go_sem] iaaI_ptr iaaI_fp ixaV_int ixtV_int ixtI_str u8K_eq extV_tup lenOf_vs lenOf_bs
attribute [go_sem] lenOf_str elems_vs elems_bs rowElems_eq afterIn_eq popK_eq idsFrom_nil idsFrom_cons LV.apart LV.aparts bne_iff_ne ne_eq not_false_eq_true
attribute [go_sem] vsK_some appK_eq appV_bs appO_row allLen_eq mksV_int foldV_cons fold2_nil fold2_cons bnd_none bnd_some bndV_int
attribute [go_sem] cut_eq cutK_eq cutK2_eq slsV_vs cutVs_eq callFn_eq callV_fn afterPure_eq
attribute [go_sem] import_tup import_agg import_int import_bool import_vs import_fn import_os import_om tupK_eq imports_nil imports_cons importsK_eq import1_agg import1_int import1_bool
attribute [go_sem] exportV_eq chkR_eq exportR_tup exportR_agg exportR_int exportR_bool exportR_vs exportR_fn exportR_bs expBs_row exports_nil exports_cons exportsK_eq export1_agg
attribute [go_sem] expPs_nil expPs_cons expP_ptr fpK_box
attribute [go_sem] delIds_nil delIds_cons export1_int export1_bool closedC_agg closedC_int closedC_bool
attribute [go_sem] closedR_os closedR_tup closedR_agg closedR_int closedR_bool closedR_vs closedR_fn endReg_eq maskK_some dropK_nil dropK_cons keep_nil keep_cons slotIds_nil slotIds_cons
attribute [go_sem] regR_eq res1_t res1_cell resultsL_nil resultsL_cons resultsK_eq consV_eq numArgs_nil numArgs_cons Q5 Option.bind_none Qay Option.map_none Qax Q1 Q3 Qt Qaq Qb0 Qao
attribute [go_sem] Qah Qa9 Option.getD_none Qdh Qbe Nat.zero_mul Nat.mul_zero Nat.sub_zero Q8 Qb1 List.all_nil Q4 Qa0 List.take_succ_cons Qcq List.drop_succ_cons Qdp List.take_nil List.drop_nil Qy
attribute [go_sem] Qw Qbc Qcs List.getElem?_cons_zero List.getElem?_nil and_self and_true true_and false_and and_false or_self List.contains_cons List.contains_nil List.isEmpty_nil List.isEmpty_cons Qcp List.replicate_zero List.set_cons_zero List.set_cons_succ beq_self_eq_true
attribute [go_sem] Qh LV.one LV.sub LV.subs LV.closed LV.closeds LV.closedRs LV.cl LV.cls LV.ids LV.idss LV.noVs LV.noVss isShf oid Qai Qa5 Int.toNat_natCast decide_true decide_false
attribute [go_sem] if_true if_false
attribute [go_sem] loopF_nrm loopF_ret loopF_exit
abbrev w64 (n : Int) : Int:=IntKind.i64.wrap n
attribute [go_sem] chkOp_loc lo_mv lo_bin lo_fad lo_iaa uniqK_int uniqK_bool
attribute [go_sem] w64 Qcj
theorem wrap_small {n : Int} (h1 : -9223372036854775808≤n) (h2 : n≤9223372036854775807) : IntKind.i64.wrap n = n:=by
 simp [IntKind.wrap,IntKind.signed,IntKind.bits]; omega
attribute [go_sem] wrap_small Qby Qn Qcg
attribute [go_sem] Qbn
theorem tbf : (true != false) = true:=rfl
theorem fbt : (false != true) = true:=rfl
attribute [go_sem] tbf fbt
attribute [congr] ite_congr
attribute [go_sem] decide_eq_true_eq ge_iff_le gt_iff_lt beq_iff_eq
end Go.Zv

/- The engine, part 4c: the rules for a call that shares its caller's memory and for a range over a function. -/
namespace Go.Zv
variable {E : FuncId → Option AFn}
noncomputable def fnR (E : FuncId → Option AFn) (args : List LV) (lvl : Nat) (F : List Env) (O : Heap) (fn : AFn) : Option Out:=fnBeg (Run E) args lvl F O fn
theorem Run_fn (f args lvl F O) : Run E (.fn f args lvl F O) = (E f).bind (fnR E args lvl F O):=by rw [Run_eq]; rfl
theorem fnR_code (args lvl F O res body) : fnR E args lvl F O (.code res body) = (K E body ⟨numArgs 0 args,F,O,lvl⟩).bind (fnEnd res):=rfl
theorem fnEnd_nrm (res) (s : St) : fnEnd res (.ex .nrm s) = endFn res s:=rfl
theorem fnEnd_ret (res) (s : St) : fnEnd res (.ex .ret s) = endFn res s:=rfl
theorem endFn_eq (res) (s : St) : endFn res s = (resultsL s res).bind (outK s):=rfl
theorem outK_0 (T F O lvl) : outK ⟨T,F,O,lvl⟩ [] = some (.res (.tup []) F O):=rfl
theorem outK_1 (T F O lvl v) : outK ⟨T,F,O,lvl⟩ [v] = some (.res v F O):=rfl
theorem wit_eq (id T F O lvl) : wit id ⟨T,F,O,lvl⟩ = ⟨T,[(0,.yl id)]::F,O,lvl⟩:=rfl
theorem unwit_eq (id T V F O lvl) : unwit id ⟨T,V::F,O,lvl⟩ = if isYl id (tget V 0) = true then some ⟨T,F,O,lvl⟩ else none:=rfl
theorem isYl_yl (id i) : isYl id (.yl i) = (i == id):=rfl
theorem callV_yl (fz id l args) (T : Env) (F : List Env) (O : Heap) (lvl : Nat) : callV (Run E) fz id (.yl l) args ⟨T,F,O,lvl⟩ = (Run E (.rnd l args (lvl + 1) (T::F) O)).bind (afterIn lvl):=rfl
theorem K_rf (rid f ps a b) (T : Env) (F : List Env) (O : Heap) (lvl : Nat) : K E (.rf rid f ps a b) ⟨T,F,O,lvl⟩ = rfK (Run E) (oid lvl 4000 + rid) (oid lvl 4001) f (begRf (oid lvl 4000 + rid) ps a b ⟨T,F,O,lvl⟩):=by unfold K; rw [Run_eq]; rfl
theorem rfK_eq (R : Orc) (id id2 f) (s : St) : rfK R id id2 f s = (callV R true id2 (f.ev s.T) [.yl id] (wit id s)).bind (endRfR id):=rfl
theorem begRf_eq (id ps a b) (s : St) : begRf id ps a b s = begRf2 id ps a b (St.free id s):=rfl
theorem begRf2_eq (id ps a b T F O lvl) : begRf2 id ps a b ⟨T,F,O,lvl⟩ = ⟨T,F,(id,.loop T ps a b .ready .nrm)::O,lvl⟩:=rfl
theorem endRfR_eq (id v) (s : St) : endRfR id (v,s) = (unwit id s).bind (endRf id):=rfl
theorem endRf_eq (id) (s : St) : endRf id s = endRfK id s (oget s.O id):=rfl
theorem endRfK_loop (id T ps a b st p) (s : St) : endRfK id s (some (.loop T ps a b st p)) = if st = .busy then none else some (.ex p (St.free id s)):=rfl
noncomputable def rndR (E : FuncId → Option AFn) (id : Nat) (args : List LV) (lvl : Nat) (F : List Env) (O : Heap) (o : Option Obj) : Option Out:=rndBeg (Run E) id args lvl F O o
theorem Run_rnd (id args lvl F O) : Run E (.rnd id args lvl F O) = rndR E id args lvl F O (oget O id):=by rw [Run_eq]; rfl
noncomputable def rndA (E : FuncId → Option AFn) (id : Nat) (body : ACode) (o : Out) : Option Out:=rndAsg (Run E) id body o
theorem rndR_ready (id args lvl F O T ps a b p) : rndR E id args lvl F O (some (.loop T ps a b .ready p)) =
  if ps.length = args.length then (K E a (wit id ⟨(ps.zip args).reverse++T,F,O,lvl⟩)).bind (rndA E id b) else none:=rfl
noncomputable def rndM (E : FuncId → Option AFn) (id : Nat) (body : ACode) (s : St) (o : Option Obj) : Option Out:=rndMid (Run E) id body s o
noncomputable def rndM1 (E : FuncId → Option AFn) (id : Nat) (body : ACode) (s : St) : Option Out:=rndM E id body s (oget s.O id)
theorem rndM1_eq (id body) (s : St) : rndM1 E id body s = rndM E id body s (oget s.O id):=rfl
theorem rndA_nrm (id body) (s : St) : rndA E id body (.ex .nrm s) = (unwit id s).bind (rndM1 E id body):=rfl
theorem rndM_ready (id body T F O lvl U ps a b p) : rndM E id body ⟨T,F,O,lvl⟩ (some (.loop U ps a b .ready p)) =
  (K E body ⟨T,[(0,.yl id)]::F,oset O id (.loop U ps a b .busy p),lvl⟩).bind (rndBody id):=rfl
theorem rndBody_ex (id e) (s : St) : rndBody id (.ex e s) = (unwit id s).bind (endRnd id e):=rfl
theorem endRnd_eq (id e) (s : St) : endRnd id e s = endRndK id e s (oget s.O id):=rfl
theorem endRndK_nrm (id T ps a b p) (s : St) : endRndK id .nrm s (some (.loop T ps a b .busy p)) = some (.res (.bool true) s.F (oset s.O id (.loop T ps a b .ready .nrm))):=rfl
theorem endRndK_ret (id T ps a b p) (s : St) : endRndK id .ret s (some (.loop T ps a b .busy p)) = some (.res (.bool false) s.F (oset s.O id (.loop T ps a b .done .ret))):=rfl
attribute [go_sem] bne_self_eq_false
attribute [go_sem] Run_fn fnR_code fnEnd_nrm fnEnd_ret endFn_eq outK_0 outK_1 wit_eq unwit_eq isYl_yl callV_yl K_rf rfK_eq begRf_eq begRf2_eq endRfR_eq endRf_eq endRfK_loop Run_rnd rndR_ready rndM1_eq rndA_nrm rndM_ready rndBody_ex endRnd_eq endRndK_nrm endRndK_ret
attribute [go_sem] List.zip_cons_cons List.zip_nil_left List.zip_nil_right List.reverse_cons Qc7
/-! closed at birth -/
def dMksF (z : List LV) (s : St) : LV → LV → Option (LV × St)
 | .int _ n,.int _ m=>if 0≤n∧n≤m∧m≤1000000000∧LV.closeds (LV.cls [] z) = true∧(LV.cls [] z).all LV.one = true then some (.vs (List.replicate n.toNat (LV.cls [] z)),s) else none
 | _,_=>none
def dBslF (n : Nat) (s : St) (xs : List (List LV)) : Option (LV × St):=if ((fixR xs).all fun x=>LV.closeds x && x.all LV.one) = true then if n = (fixR xs).length then some (.vs (fixR xs),s) else none else none
def dAfterF (s : St) : LV → Option (LV × St)
 | .os _ xs=>some (.vs xs,s)
 | _=>none
attribute [go_sem] Qk Q0
end Go.Zv

/- The engine, part 31: loops: what a round does, once, gives what the loop does. -/
namespace Go.Zv
theorem loop_idx {σ : Type} (G : St → Option Out) (S : Nat → σ → St) (n : Nat) (I : Nat → σ → Prop) (res : Nat → σ → Option Out)
  (stop : ∀ x,I n x → G (S n x) = res n x)
  (step : ∀ k x,k < n → I k x → G (S k x) = res k x ∨ ∃ y,I (k + 1) y∧G (S k x) = G (S (k + 1) y)∧res k x = res (k + 1) y) :
  ∀ k x,k≤n → I k x → G (S k x) = res k x:=by
 have h : ∀ j k x,k + j = n → I k x → G (S k x) = res k x:=by
  intro j
  induction j with
  | zero => intro k x hk hi; have e : k = n:=by omega
            subst e; exact stop x hi
  | succ j ih =>
    intro k x hk hi
    rcases step k x (by omega) hi with h | ⟨y,h1,h2,h3⟩
    ·exact h
    ·rw [h2,h3]; exact ih (k + 1) y (by omega) h1
 intro k x hk; exact h (n - k) k x (by omega)
theorem drop_get {α : Type} {l : List α} {k : Nat} {p : α} (h : l[k]? = some p) : l.drop k = p::l.drop (k + 1):=by
 obtain ⟨h1,h2⟩:=Qe.1 h
 rw [Qcd h1,h2]
theorem loop_any {α : Type} (G : St → Option Out) (S : Nat → St) (l : List α) (P : α → Bool) (r e : Option Out)
  (stop : G (S l.length) = e)
  (step : ∀ k p,k < l.length → l[k]? = some p → G (S k) = if P p = true then r else G (S (k + 1))) : G (S 0) = if l.any P = true then r else e:=by
 have:=loop_idx (σ:=Unit) G (fun k _=>S k) l.length (fun _ _=>True) (fun k _=>if (l.drop k).any P = true then r else e) (fun _ _=>by simp [stop]) (fun k x hk _=>by
  have hget : l[k]? = some (l[k]'hk):=Qf _
  have hs:=step k _ hk hget
  have hd:=drop_get hget
  generalize l[k]'hk = p at *
  cases hp : P p with
  | true=>left; rw [hs,hd]; simp [hp]
  | false => right; refine ⟨(),trivial,?_,?_⟩
             ·rw [hs,hp]; simp
             ·simp only [hd,List.any_cons,hp,Qah]) 0 () (by omega) trivial
 simpa using this
theorem loop_foldl {α σ : Type} (G : St → Option Out) (S : Nat → σ → St) (l : List α) (f : σ → α → σ) (I : σ → Prop)
  (step : ∀ k p x,k < l.length → l[k]? = some p → I x → I (f x p)∧G (S k x) = G (S (k + 1) (f x p))) (x : σ) (hx : I x) : G (S 0 x) = G (S l.length (l.foldl f x)):=by
 have:=loop_idx G S l.length (fun _ x=>I x) (fun k x=>G (S l.length ((l.drop k).foldl f x))) (fun _ _=>by simp) (fun k x hk hi=>by
  have hget : l[k]? = some (l[k]'hk):=Qf _
  have hs:=step k _ x hk hget hi
  have hd:=drop_get hget
  generalize l[k]'hk = p at *
  right
  exact ⟨f x p,hs.1,hs.2,by simp only [hd,Qa7]⟩) 0 x (by omega) hx
 simpa using this
theorem loop_to (G : St → Option Out) (S : Nat → St) (n : Nat) (step : ∀ k,k < n → G (S k) = G (S (k + 1))) : G (S 0) = G (S n):=by
 exact loop_idx (σ:=Unit) G (fun k _=>S k) n (fun _ _=>True) (fun _ _=>G (S n)) (fun _ _=>rfl) (fun k x hk _=>.inr ⟨(),trivial,step k hk,rfl⟩) 0 () (by omega) trivial
theorem loop_eq {α : Type} [DecidableEq α] (G : St → Option Out) (S : Nat → St) (a b : List α) (hl : a.length = b.length) (r e : Option Out)
  (stop : G (S a.length) = e)
  (step : ∀ k p q,k < a.length → a[k]? = some p → b[k]? = some q → G (S k) = if p = q then G (S (k + 1)) else r) : G (S 0) = if a = b then e else r:=by
 have:=loop_idx (σ:=Unit) G (fun k _=>S k) a.length (fun _ _=>True) (fun k _=>if a.drop k = b.drop k then e else r) (fun _ _=>by
  rw [Qbk (by omega),Qbk (by omega)]; simp [stop]) (fun k x hk _=>by
  have ha : a[k]? = some (a[k]'hk):=Qf _
  have hb : b[k]? = some (b[k]'(by omega)):=Qf _
  have hs:=step k _ _ hk ha hb
  have hda:=drop_get ha
  have hdb:=drop_get hb
  generalize a[k]'hk = p at *
  generalize b[k]'(by omega) = q at *
  by_cases hp : p = q
  ·right; refine ⟨(),trivial,by rw [hs,if_pos hp],?_⟩
   simp only [hda,hdb,List.cons.injEq,hp,true_and]
  ·left; rw [hs,if_neg hp]
   simp only [hda,hdb,List.cons.injEq,hp,false_and,if_false]) 0 () (by omega) trivial
 simpa using this
theorem loop_P {σ : Type} (G : St → Option Out) (S : Nat → σ → St) (n : Nat) (I : Nat → σ → Prop) (Q : Nat → σ → Option Out → Prop)
  (stop : ∀ x,I n x → Q n x (G (S n x)))
  (step : ∀ k x,k < n → I k x → Q k x (G (S k x)) ∨ ∃ y,I (k + 1) y∧G (S k x) = G (S (k + 1) y) ∧ ∀ o,Q (k + 1) y o → Q k x o) :
  ∀ k x,k≤n → I k x → Q k x (G (S k x)):=by
 have h : ∀ j k x,k + j = n → I k x → Q k x (G (S k x)):=by
  intro j
  induction j with
  | zero => intro k x hk hi; have e : k = n:=by omega
            subst e; exact stop x hi
  | succ j ih =>
    intro k x hk hi
    rcases step k x (by omega) hi with h | ⟨y,h1,h2,h3⟩
    ·exact h
    ·rw [h2]; exact h3 _ (ih (k + 1) y (by omega) h1)
 intro k x hk; exact h (n - k) k x (by omega)
theorem loop_leave {α σ : Type} (G : St → Option Out) (S : Nat → σ → St) (l : List α) (f : σ → α → σ) (P : α → Bool) (R : Option Out → Prop) (e : σ → Option Out)
  (stop : ∀ x,G (S l.length x) = e x)
  (step : ∀ k p x,k < l.length → l[k]? = some p → (P p = true → R (G (S k x)))∧(P p = false → G (S k x) = G (S (k + 1) (f x p)))) (x : σ) :
  (l.any P = true → R (G (S 0 x)))∧(l.any P = false → G (S 0 x) = e (l.foldl f x)):=by
 have:=loop_P G S l.length (fun _ _=>True) (fun k x o=>((l.drop k).any P = true → R o)∧((l.drop k).any P = false → o = e ((l.drop k).foldl f x)))
  (fun x _=>by simp [stop]) (fun k x hk _=>by
   have hget : l[k]? = some (l[k]'hk):=Qf _
   have hs:=step k _ x hk hget
   have hd:=drop_get hget
   generalize l[k]'hk = p at *
   cases hp : P p with
   | true=>left; rw [hd]; exact ⟨fun _=>hs.1 hp,fun h=>by simp [hp] at h⟩
   | false =>
     right; refine ⟨f x p,trivial,hs.2 hp,fun o ho=>?_⟩
     rw [hd]; simpa [hp] using ho) 0 x (by omega) trivial
 simpa using this
theorem teqf : (true == false) = false:=rfl
theorem feqt : (false == true) = false:=rfl
attribute [go_sem] teqf feqt
end Go.Zv
attribute [go_sem_proc] Nat.reduceAdd Nat.reduceMul Nat.reduceSub Nat.reduceEqDiff Nat.reduceLeDiff Nat.reduceDiv Nat.reduceMod Nat.reduceBEq Nat.reduceBNe reduceCtorEq Int.reduceLE Int.reduceLT Int.reduceToNat Int.reduceNeg Nat.reduceLT Int.reduceEq Int.reduceSub Int.reduceAdd Int.reduceMul Nat.reducePow Int.reduceBEq Int.reduceBNe Int.reduceMod
attribute [go_sem] Go.Zv.s_ Go.Zv.t_ Go.Zv.f_ Go.Zv.n_ Go.Zv.i0_ Go.Zv.m_ Go.Zv.b_ Go.Zv.l_ Go.Zv.r_
attribute [go_sem_proc ↓] reduceIte
attribute [go_sem] Go.Zv.LV.z
