/-
  LE, the engine, part 22: the rules under few names, on.
-/
import Derived.Test.YtoglkgbjehbcpaaE21
namespace Go.LE
set_option linter.unusedSimpArgs false
set_option linter.defProp false
set_option linter.unusedVariables false

def ev4 := (And.intro @viewL_nil (And.intro @viewL_cons (And.intro @viewA_v (And.intro @viewA_agg (And.intro @viewA_hd (And.intro @rowAV_row (And.intro @consV_some (And.intro @valsL_map (And.intro @pureK_some (And.intro @makeK_some (And.intro @argL_nil @argL_cons)))))))))))

def ev5 := (And.intro @fillF_nil (And.intro @fillF_cons (And.intro @fillG_some (And.intro @aggK_some (And.intro @buildF_some (And.intro @fillS_nil (And.intro @fillS_cons (And.intro @rowK_some (And.intro @bsK_some (And.intro @bsU_slice (And.intro @semBuildSlice_eq (And.intro @semApp_own (And.intro @appK_row (And.intro @appJ_some (And.intro @semApp_nil (And.intro @appN_row (And.intro @appM_some (And.intro @xcells1 (And.intro @xcells2 (And.intro @xcells3 (And.intro @xcells4 (And.intro @xthere1 (And.intro @xthere2 (And.intro @xthere3 (And.intro @xthere4 (And.intro @sliceEq (And.intro @sliceIs (And.intro @semExtract_agg (And.intro @callOps_b (And.intro @callOps_v (And.intro @callOps_i (And.intro @semF_K (And.intro @semFK_some (And.intro @pureC_ev (And.intro @makeC_ev (And.intro @resL_nil (And.intro @resL_cons (And.intro @resOne_tmp (And.intro @resS_is (And.intro @resOne_cell (And.intro @resC_own (And.intro @resR_mk (And.intro @tupOf_one (And.intro @tupOf_two (And.intro @Fin_ret (And.intro @Fin_normal @finK_mk))))))))))))))))))))))))))))))))))))))))))))))

def ev0 := (And.intro @if_true (And.intro @if_false (And.intro @List.toList_toArray (And.intro @Option.isNone_none (And.intro @Option.isNone_some (And.intro @Option.isSome_none (And.intro @Option.isSome_some (And.intro @and_true (And.intro @true_and (And.intro @and_self (And.intro @true_imp_iff (And.intro @forall_const (And.intro @List.append_nil (And.intro @List.nil_append (And.intro @List.cons_append (And.intro @cond_true (And.intro @cond_false (And.intro @List.map_cons (And.intro @List.map_nil (And.intro @Bool.true_and (And.intro @Bool.and_true (And.intro @beq_false (And.intro @beq_true (And.intro @imp_self (And.intro @implies_true (And.intro @Bool.cond_self (And.intro @Option.bind_some (And.intro @List.getElem?_toArray (And.intro @List.getElem?_cons_zero (And.intro @List.getElem?_cons_succ (And.intro @List.length_cons (And.intro @List.length_nil (And.intro @List.getD_cons_zero (And.intro @List.getD_cons_succ (And.intro @List.take_succ_cons (And.intro @List.take_zero (And.intro @List.drop_succ_cons (And.intro @List.drop_zero (And.intro @List.zip_cons_cons (And.intro @List.zip_nil_right (And.intro @Option.getD_some (And.intro @List.all_cons (And.intro @List.all_nil (And.intro @Bool.cond_true_left (And.intro @Bool.cond_false_right (And.intro @Bool.cond_true_right @Bool.cond_false_left))))))))))))))))))))))))))))))))))))))))))))))

end Go.LE
