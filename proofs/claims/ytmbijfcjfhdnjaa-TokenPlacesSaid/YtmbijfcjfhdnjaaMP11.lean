/- Texts of one proof, laid together: Ab17 Ka Kb Kc Kd Ke Kf Kg Kh Kj Kk Ay. -/
import Derived.Test.YtmbijfcjfhdnjaaMP10

/- The abstract layer: the walk's laws as one. (Written by bundle.py.) -/
namespace Go.Proofs.Ytmbijfcjfhdnjaa
set_option linter.unusedSimpArgs false
set_option linter.unusedVariables false
open Go.RowKit Go.Lib

theorem wk : type_of% (And.intro (And.intro (And.intro (And.intro (And.intro (And.intro (And.intro (And.intro (@W_skip) (@W_scope)) (And.intro (@W_dead) (And.intro (@kscope_normal) (@kscope_exit)))) (And.intro (And.intro (@kscope_ret) (@W_ops)) (And.intro (@W_draw) (And.intro (@W_seq) (@W_cond2))))) (And.intro (And.intro (And.intro (@W_block) (@W_exit)) (And.intro (@W_ret) (And.intro (@W_keep) (@kseq_normal)))) (And.intro (And.intro (@kseq_exit) (And.intro (@kseq_ret) (@kblock_normal))) (And.intro (@kblock_exit) (And.intro (@kblock_ret) (@kloop_normal)))))) (And.intro (And.intro (And.intro (And.intro (@kloop_exit) (@kloop_ret)) (And.intro (@kret_normal) (And.intro (@kret_ret) (@kdraw_eq)))) (And.intro (And.intro (@kval_eq) (And.intro (@kv_eq) (@kput_eq))) (And.intro (@kbox_eq) (And.intro (@kobj_eq) (@klst_eq))))) (And.intro (And.intro (And.intro (@krow_eq) (@kcall_eq)) (And.intro (@put_some) (And.intro (@put_none) (@lk_cons')))) (And.intro (And.intro (@lk_nil) (And.intro (@restr_nil) (@restr_cons))) (And.intro (@ev_t) (And.intro (@ev_c) (@ev_f))))))) (And.intro (And.intro (And.intro (And.intro (And.intro (@evs_nil) (@evs_cons)) (And.intro (@evD_none) (And.intro (@evD_some) (@degr_nil)))) (And.intro (And.intro (@degr_cons) (And.intro (@args0_nil) (@args0_cons))) (And.intro (@buildK_nil) (And.intro (@buildK_cons) (@upgK_nil))))) (And.intro (And.intro (And.intro (@upgK_cons) (@resL_nil)) (And.intro (@resL_t) (And.intro (@resL_c) (@res1_one)))) (And.intro (And.intro (@res1_nil) (And.intro (@res1_two) (@WOps_nil'))) (And.intro (@WOps_cons') (And.intro (@WOps_gd2) (@kops_eq')))))) (And.intro (And.intro (And.intro (And.intro (@VOps_nil') (@VOps_cons')) (And.intro (@VOps_gd2) (And.intro (@VOps_ft') (@VOps_gdft2)))) (And.intro (And.intro (@apart_nil) (And.intro (@apart_cons) (@ptrId_ptr))) (And.intro (@ptrId_hs) (And.intro (@sameId_eq) (@fbId_s))))) (And.intro (And.intro (And.intro (@fbId_h) (@effF_load)) (And.intro (@effF_loado) (And.intro (@effF_store) (@effF_stores)))) (And.intro (And.intro (@effF_storeo) (And.intro (@effF_calli) (@effF_new))) (And.intro (@effF_box) (And.intro (@effF_mkn) (@W_holes)))))))) (And.intro (And.intro (And.intro (And.intro (And.intro (And.intro (@rep2) (@rep3)) (And.intro (@kvops_eq') (And.intro (@splice_cons') (@splice_nil')))) (And.intro (And.intro (@wop_mv) (And.intro (@eff_mv) (@wop_pick2))) (And.intro (@eff_pick2) (And.intro (@wop_build) (@eff_build))))) (And.intro (And.intro (And.intro (@wop_load) (@eff_load)) (And.intro (@wop_lds) (And.intro (@eff_lds) (@wop_nilck)))) (And.intro (And.intro (@eff_nilck) (And.intro (@wop_bin) (@eff_bin))) (And.intro (@wop_pnil) (And.intro (@eff_pnil) (@wop_bbin)))))) (And.intro (And.intro (And.intro (And.intro (@eff_bbin) (@wop_not)) (And.intro (@eff_not) (And.intro (@wop_conv) (@eff_conv)))) (And.intro (And.intro (@wop_cstr) (And.intro (@eff_cstr) (@wop_b2s))) (And.intro (@eff_b2s) (And.intro (@wop_fld) (@eff_fld))))) (And.intro (And.intro (And.intro (@wop_idxa) (@eff_idxa)) (And.intro (@wop_idxs) (And.intro (@eff_idxs) (@wop_slcs)))) (And.intro (And.intro (@eff_slcs) (And.intro (@wop_slcl) (@eff_slcl))) (And.intro (@wop_ext) (And.intro (@eff_ext) (@wop_lens))))))) (And.intro (And.intro (And.intro (And.intro (And.intro (@eff_lens) (@wop_lenl)) (And.intro (@eff_lenl) (And.intro (@wop_mn) (@eff_mn)))) (And.intro (And.intro (@wop_mx) (And.intro (@eff_mx) (@wop_ex))) (And.intro (@eff_ex) (And.intro (@wop_mkfn) (@eff_mkfn))))) (And.intro (And.intro (And.intro (@wop_mvu) (@eff_mvu)) (And.intro (@wop_mvo) (And.intro (@eff_mvo) (@wop_new)))) (And.intro (And.intro (@eff_new) (And.intro (@wop_box) (@eff_box))) (And.intro (@wop_bsl) (And.intro (@eff_bsl) (@wop_mk0)))))) (And.intro (And.intro (And.intro (And.intro (@eff_mk0) (@wop_mkn)) (And.intro (@eff_mkn) (And.intro (@wop_loado) (@eff_loado)))) (And.intro (And.intro (@wop_app) (And.intro (@eff_app) (@wop_appo))) (And.intro (@eff_appo) (And.intro (@wop_appso) (@eff_appso))))) (And.intro (And.intro (And.intro (@wop_store) (@wop_storeo)) (And.intro (@wop_stores) (And.intro (@eff_store) (@eff_storeo)))) (And.intro (And.intro (@eff_stores) (And.intro (@wop_rngs) (@wop_nxt))) (And.intro (@wop_call) (And.intro (@eff_call) (@wop_calli))))))))) (And.intro (And.intro (And.intro (And.intro (And.intro (And.intro (And.intro (@eff_calli) (@wop_snil)) (And.intro (@eff_snil) (And.intro (@wop_storeu) (@tk_mv)))) (And.intro (And.intro (@tk_pick) (@tk_build)) (And.intro (@tk_load) (And.intro (@tk_lds) (@tk_nilck))))) (And.intro (And.intro (And.intro (@tk_bin) (@tk_pnil)) (And.intro (@tk_bbin) (And.intro (@tk_not) (@tk_conv)))) (And.intro (And.intro (@tk_cstr) (And.intro (@tk_b2s) (@tk_fld))) (And.intro (@tk_idxa) (And.intro (@tk_idxs) (@tk_slcs)))))) (And.intro (And.intro (And.intro (And.intro (@tk_slcl) (@tk_ext)) (And.intro (@tk_lens) (And.intro (@tk_lenl) (@tk_mn)))) (And.intro (And.intro (@tk_mx) (And.intro (@tk_ex) (@tk_mkfn))) (And.intro (@tk_mvu) (And.intro (@tk_mvo) (@tk_new))))) (And.intro (And.intro (And.intro (@tk_box) (@tk_bsl)) (And.intro (@tk_mk0) (And.intro (@tk_mkn) (@tk_loado)))) (And.intro (And.intro (@tk_app) (And.intro (@tk_appo) (@tk_appso))) (And.intro (@tk_store) (And.intro (@tk_storeo) (@tk_call))))))) (And.intro (And.intro (And.intro (And.intro (And.intro (@tk_stores) (@tk_calli)) (And.intro (@tk_snil) (And.intro (@ex_wadd) (@ex_wsub)))) (And.intro (And.intro (@ex_wmul) (And.intro (@ex_aeq) (@ex_r2s))) (And.intro (@ex_ibs) (And.intro (@deg_itr) (@int_add))))) (And.intro (And.intro (And.intro (@int_sub) (@int_mul)) (And.intro (@int_quo) (And.intro (@int_rem) (@int_and)))) (And.intro (And.intro (@int_or) (And.intro (@int_xor) (@int_eql))) (And.intro (@int_neq) (And.intro (@int_lss) (@int_leq)))))) (And.intro (And.intro (And.intro (And.intro (@int_gtr) (@int_geq)) (And.intro (@int_shl) (And.intro (@int_shr) (@str_add)))) (And.intro (And.intro (@str_eql) (And.intro (@str_neq) (@str_lss))) (And.intro (@arith_i8) (And.intro (@arith_i16) (@arith_i32))))) (And.intro (And.intro (And.intro (@arith_u8) (@arith_u16)) (And.intro (@arith_u32) (And.intro (@arith_u64) (@arith_i64)))) (And.intro (And.intro (@loadK_none) (And.intro (@loadK_some) (@deg_bool))) (And.intro (@isTup_bool) (And.intro (@cellsOf_bool) (@deg_int)))))))) (And.intro (And.intro (And.intro (And.intro (And.intro (And.intro (@isTup_int) (@cellsOf_int)) (And.intro (@deg_str) (And.intro (@isTup_str) (@cellsOf_str)))) (And.intro (And.intro (@deg_nilp) (And.intro (@isTup_nilp) (@cellsOf_nilp))) (And.intro (@deg_ptr) (And.intro (@isTup_ptr) (@cellsOf_ptr))))) (And.intro (And.intro (And.intro (@deg_fp) (@isTup_fp)) (And.intro (@cellsOf_fp) (And.intro (@deg_hs) (@isTup_hs)))) (And.intro (And.intro (@cellsOf_hs) (And.intro (@deg_agg) (@isTup_agg))) (And.intro (@cellsOf_agg) (And.intro (@deg_tup) (@isTup_tup)))))) (And.intro (And.intro (And.intro (And.intro (@cellsOf_tup) (@deg_fn)) (And.intro (@isTup_fn) (And.intro (@cellsOf_fn) (@deg_nilf)))) (And.intro (And.intro (@isTup_nilf) (And.intro (@cellsOf_nilf) (@deg_opq))) (And.intro (@isTup_opq) (And.intro (@cellsOf_opq) (@deg_ro))))) (And.intro (And.intro (And.intro (@deg_clip) (@deg_own)) (And.intro (@isTup_lst) (And.intro (@cellsOf_lst) (@Option.map_some.{0, 0})))) (And.intro (And.intro (@Option.map_none.{0, 0}) (And.intro (@Nat.zero_mul) (@Nat.add_zero))) (And.intro (@Nat.zero_add) (And.intro (@Nat.mul_one) (@Nat.succ_ne_self))))))) (And.intro (And.intro (And.intro (And.intro (And.intro (@Nat.one_ne_zero) (@Nat.zero_ne_one)) (And.intro (@List.length_cons.{0}) (And.intro (@List.length_nil.{0}) (@List.set_cons_zero.{0})))) (And.intro (And.intro (@List.set_cons_succ.{0}) (And.intro (@List.getElem?_cons_zero.{0}) (@List.getElem?_cons_succ.{0}))) (And.intro (@List.getElem?_nil.{0}) (And.intro (@List.drop_zero.{0}) (@List.drop_succ_cons.{0}))))) (And.intro (And.intro (And.intro (@List.take_succ_cons.{0}) (@List.take_zero.{0})) (And.intro (@List.map_cons.{0, 0}) (And.intro (@List.map_nil.{0, 0}) (@List.nil_append.{0})))) (And.intro (And.intro (@List.append_nil.{0}) (And.intro (@List.cons_append.{0}) (@Bool.not_true))) (And.intro (@Bool.not_false) (And.intro (@Bool.true_eq_false) (@Bool.false_eq_true)))))) (And.intro (And.intro (And.intro (And.intro (@true_and) (@and_true)) (And.intro (@and_self) (And.intro (@true_implies) (@false_implies)))) (And.intro (And.intro (@Bool.not_eq_true') (And.intro (@Bool.not_eq_false') (@Bool.not_eq_eq_eq_not))) (And.intro (@decide_eq_true_eq) (And.intro (@decide_eq_false_iff_not) (@Int.toNat_zero))))) (And.intro (And.intro (And.intro (@not_true_eq_false) (@not_false_eq_true)) (And.intro (@List.set_set.{0}) (And.intro (@end_get) (@end_set)))) (And.intro (And.intro (@ite_and) (And.intro (@decide_true) (@decide_false))) (And.intro (@Bool.not_eq_true) (And.intro (@Bool.not_eq_false) (@Decidable.not_not)))))))))) :=
  And.intro (And.intro (And.intro (And.intro (And.intro (And.intro (And.intro (And.intro (@W_skip) (@W_scope)) (And.intro (@W_dead) (And.intro (@kscope_normal) (@kscope_exit)))) (And.intro (And.intro (@kscope_ret) (@W_ops)) (And.intro (@W_draw) (And.intro (@W_seq) (@W_cond2))))) (And.intro (And.intro (And.intro (@W_block) (@W_exit)) (And.intro (@W_ret) (And.intro (@W_keep) (@kseq_normal)))) (And.intro (And.intro (@kseq_exit) (And.intro (@kseq_ret) (@kblock_normal))) (And.intro (@kblock_exit) (And.intro (@kblock_ret) (@kloop_normal)))))) (And.intro (And.intro (And.intro (And.intro (@kloop_exit) (@kloop_ret)) (And.intro (@kret_normal) (And.intro (@kret_ret) (@kdraw_eq)))) (And.intro (And.intro (@kval_eq) (And.intro (@kv_eq) (@kput_eq))) (And.intro (@kbox_eq) (And.intro (@kobj_eq) (@klst_eq))))) (And.intro (And.intro (And.intro (@krow_eq) (@kcall_eq)) (And.intro (@put_some) (And.intro (@put_none) (@lk_cons')))) (And.intro (And.intro (@lk_nil) (And.intro (@restr_nil) (@restr_cons))) (And.intro (@ev_t) (And.intro (@ev_c) (@ev_f))))))) (And.intro (And.intro (And.intro (And.intro (And.intro (@evs_nil) (@evs_cons)) (And.intro (@evD_none) (And.intro (@evD_some) (@degr_nil)))) (And.intro (And.intro (@degr_cons) (And.intro (@args0_nil) (@args0_cons))) (And.intro (@buildK_nil) (And.intro (@buildK_cons) (@upgK_nil))))) (And.intro (And.intro (And.intro (@upgK_cons) (@resL_nil)) (And.intro (@resL_t) (And.intro (@resL_c) (@res1_one)))) (And.intro (And.intro (@res1_nil) (And.intro (@res1_two) (@WOps_nil'))) (And.intro (@WOps_cons') (And.intro (@WOps_gd2) (@kops_eq')))))) (And.intro (And.intro (And.intro (And.intro (@VOps_nil') (@VOps_cons')) (And.intro (@VOps_gd2) (And.intro (@VOps_ft') (@VOps_gdft2)))) (And.intro (And.intro (@apart_nil) (And.intro (@apart_cons) (@ptrId_ptr))) (And.intro (@ptrId_hs) (And.intro (@sameId_eq) (@fbId_s))))) (And.intro (And.intro (And.intro (@fbId_h) (@effF_load)) (And.intro (@effF_loado) (And.intro (@effF_store) (@effF_stores)))) (And.intro (And.intro (@effF_storeo) (And.intro (@effF_calli) (@effF_new))) (And.intro (@effF_box) (And.intro (@effF_mkn) (@W_holes)))))))) (And.intro (And.intro (And.intro (And.intro (And.intro (And.intro (@rep2) (@rep3)) (And.intro (@kvops_eq') (And.intro (@splice_cons') (@splice_nil')))) (And.intro (And.intro (@wop_mv) (And.intro (@eff_mv) (@wop_pick2))) (And.intro (@eff_pick2) (And.intro (@wop_build) (@eff_build))))) (And.intro (And.intro (And.intro (@wop_load) (@eff_load)) (And.intro (@wop_lds) (And.intro (@eff_lds) (@wop_nilck)))) (And.intro (And.intro (@eff_nilck) (And.intro (@wop_bin) (@eff_bin))) (And.intro (@wop_pnil) (And.intro (@eff_pnil) (@wop_bbin)))))) (And.intro (And.intro (And.intro (And.intro (@eff_bbin) (@wop_not)) (And.intro (@eff_not) (And.intro (@wop_conv) (@eff_conv)))) (And.intro (And.intro (@wop_cstr) (And.intro (@eff_cstr) (@wop_b2s))) (And.intro (@eff_b2s) (And.intro (@wop_fld) (@eff_fld))))) (And.intro (And.intro (And.intro (@wop_idxa) (@eff_idxa)) (And.intro (@wop_idxs) (And.intro (@eff_idxs) (@wop_slcs)))) (And.intro (And.intro (@eff_slcs) (And.intro (@wop_slcl) (@eff_slcl))) (And.intro (@wop_ext) (And.intro (@eff_ext) (@wop_lens))))))) (And.intro (And.intro (And.intro (And.intro (And.intro (@eff_lens) (@wop_lenl)) (And.intro (@eff_lenl) (And.intro (@wop_mn) (@eff_mn)))) (And.intro (And.intro (@wop_mx) (And.intro (@eff_mx) (@wop_ex))) (And.intro (@eff_ex) (And.intro (@wop_mkfn) (@eff_mkfn))))) (And.intro (And.intro (And.intro (@wop_mvu) (@eff_mvu)) (And.intro (@wop_mvo) (And.intro (@eff_mvo) (@wop_new)))) (And.intro (And.intro (@eff_new) (And.intro (@wop_box) (@eff_box))) (And.intro (@wop_bsl) (And.intro (@eff_bsl) (@wop_mk0)))))) (And.intro (And.intro (And.intro (And.intro (@eff_mk0) (@wop_mkn)) (And.intro (@eff_mkn) (And.intro (@wop_loado) (@eff_loado)))) (And.intro (And.intro (@wop_app) (And.intro (@eff_app) (@wop_appo))) (And.intro (@eff_appo) (And.intro (@wop_appso) (@eff_appso))))) (And.intro (And.intro (And.intro (@wop_store) (@wop_storeo)) (And.intro (@wop_stores) (And.intro (@eff_store) (@eff_storeo)))) (And.intro (And.intro (@eff_stores) (And.intro (@wop_rngs) (@wop_nxt))) (And.intro (@wop_call) (And.intro (@eff_call) (@wop_calli))))))))) (And.intro (And.intro (And.intro (And.intro (And.intro (And.intro (And.intro (@eff_calli) (@wop_snil)) (And.intro (@eff_snil) (And.intro (@wop_storeu) (@tk_mv)))) (And.intro (And.intro (@tk_pick) (@tk_build)) (And.intro (@tk_load) (And.intro (@tk_lds) (@tk_nilck))))) (And.intro (And.intro (And.intro (@tk_bin) (@tk_pnil)) (And.intro (@tk_bbin) (And.intro (@tk_not) (@tk_conv)))) (And.intro (And.intro (@tk_cstr) (And.intro (@tk_b2s) (@tk_fld))) (And.intro (@tk_idxa) (And.intro (@tk_idxs) (@tk_slcs)))))) (And.intro (And.intro (And.intro (And.intro (@tk_slcl) (@tk_ext)) (And.intro (@tk_lens) (And.intro (@tk_lenl) (@tk_mn)))) (And.intro (And.intro (@tk_mx) (And.intro (@tk_ex) (@tk_mkfn))) (And.intro (@tk_mvu) (And.intro (@tk_mvo) (@tk_new))))) (And.intro (And.intro (And.intro (@tk_box) (@tk_bsl)) (And.intro (@tk_mk0) (And.intro (@tk_mkn) (@tk_loado)))) (And.intro (And.intro (@tk_app) (And.intro (@tk_appo) (@tk_appso))) (And.intro (@tk_store) (And.intro (@tk_storeo) (@tk_call))))))) (And.intro (And.intro (And.intro (And.intro (And.intro (@tk_stores) (@tk_calli)) (And.intro (@tk_snil) (And.intro (@ex_wadd) (@ex_wsub)))) (And.intro (And.intro (@ex_wmul) (And.intro (@ex_aeq) (@ex_r2s))) (And.intro (@ex_ibs) (And.intro (@deg_itr) (@int_add))))) (And.intro (And.intro (And.intro (@int_sub) (@int_mul)) (And.intro (@int_quo) (And.intro (@int_rem) (@int_and)))) (And.intro (And.intro (@int_or) (And.intro (@int_xor) (@int_eql))) (And.intro (@int_neq) (And.intro (@int_lss) (@int_leq)))))) (And.intro (And.intro (And.intro (And.intro (@int_gtr) (@int_geq)) (And.intro (@int_shl) (And.intro (@int_shr) (@str_add)))) (And.intro (And.intro (@str_eql) (And.intro (@str_neq) (@str_lss))) (And.intro (@arith_i8) (And.intro (@arith_i16) (@arith_i32))))) (And.intro (And.intro (And.intro (@arith_u8) (@arith_u16)) (And.intro (@arith_u32) (And.intro (@arith_u64) (@arith_i64)))) (And.intro (And.intro (@loadK_none) (And.intro (@loadK_some) (@deg_bool))) (And.intro (@isTup_bool) (And.intro (@cellsOf_bool) (@deg_int)))))))) (And.intro (And.intro (And.intro (And.intro (And.intro (And.intro (@isTup_int) (@cellsOf_int)) (And.intro (@deg_str) (And.intro (@isTup_str) (@cellsOf_str)))) (And.intro (And.intro (@deg_nilp) (And.intro (@isTup_nilp) (@cellsOf_nilp))) (And.intro (@deg_ptr) (And.intro (@isTup_ptr) (@cellsOf_ptr))))) (And.intro (And.intro (And.intro (@deg_fp) (@isTup_fp)) (And.intro (@cellsOf_fp) (And.intro (@deg_hs) (@isTup_hs)))) (And.intro (And.intro (@cellsOf_hs) (And.intro (@deg_agg) (@isTup_agg))) (And.intro (@cellsOf_agg) (And.intro (@deg_tup) (@isTup_tup)))))) (And.intro (And.intro (And.intro (And.intro (@cellsOf_tup) (@deg_fn)) (And.intro (@isTup_fn) (And.intro (@cellsOf_fn) (@deg_nilf)))) (And.intro (And.intro (@isTup_nilf) (And.intro (@cellsOf_nilf) (@deg_opq))) (And.intro (@isTup_opq) (And.intro (@cellsOf_opq) (@deg_ro))))) (And.intro (And.intro (And.intro (@deg_clip) (@deg_own)) (And.intro (@isTup_lst) (And.intro (@cellsOf_lst) (@Option.map_some.{0, 0})))) (And.intro (And.intro (@Option.map_none.{0, 0}) (And.intro (@Nat.zero_mul) (@Nat.add_zero))) (And.intro (@Nat.zero_add) (And.intro (@Nat.mul_one) (@Nat.succ_ne_self))))))) (And.intro (And.intro (And.intro (And.intro (And.intro (@Nat.one_ne_zero) (@Nat.zero_ne_one)) (And.intro (@List.length_cons.{0}) (And.intro (@List.length_nil.{0}) (@List.set_cons_zero.{0})))) (And.intro (And.intro (@List.set_cons_succ.{0}) (And.intro (@List.getElem?_cons_zero.{0}) (@List.getElem?_cons_succ.{0}))) (And.intro (@List.getElem?_nil.{0}) (And.intro (@List.drop_zero.{0}) (@List.drop_succ_cons.{0}))))) (And.intro (And.intro (And.intro (@List.take_succ_cons.{0}) (@List.take_zero.{0})) (And.intro (@List.map_cons.{0, 0}) (And.intro (@List.map_nil.{0, 0}) (@List.nil_append.{0})))) (And.intro (And.intro (@List.append_nil.{0}) (And.intro (@List.cons_append.{0}) (@Bool.not_true))) (And.intro (@Bool.not_false) (And.intro (@Bool.true_eq_false) (@Bool.false_eq_true)))))) (And.intro (And.intro (And.intro (And.intro (@true_and) (@and_true)) (And.intro (@and_self) (And.intro (@true_implies) (@false_implies)))) (And.intro (And.intro (@Bool.not_eq_true') (And.intro (@Bool.not_eq_false') (@Bool.not_eq_eq_eq_not))) (And.intro (@decide_eq_true_eq) (And.intro (@decide_eq_false_iff_not) (@Int.toNat_zero))))) (And.intro (And.intro (And.intro (@not_true_eq_false) (@not_false_eq_true)) (And.intro (@List.set_set.{0}) (And.intro (@end_get) (@end_set)))) (And.intro (And.intro (@ite_and) (And.intro (@decide_true) (@decide_false))) (And.intro (@Bool.not_eq_true) (And.intro (@Bool.not_eq_false) (@Decidable.not_not)))))))))
end Go.Proofs.Ytmbijfcjfhdnjaa

/- Texts rune by rune; the small functions of token and its reference; stop. -/
namespace Go.Proofs.Ytmbijfcjfhdnjaa
set_option linter.unusedSimpArgs false
set_option linter.unusedVariables false
open Go.RowKit Go.Lib

theorem byte_get {s : ByteArray} {i : Nat} (h : i < s.size) : s.get! i = s.data.toList[i]'(by simpa using h) := by
  show s.get! i = _
  simp only [ByteArray.get!]
  rw [getElem!_pos s.data i h]
  simp
theorem dec_lt {s : ByteArray} {pos : Nat} (h : pos < s.data.toList.length) (ha : (s.data.toList[pos]).toNat < 128) : Utf8.decode s pos = ((s.data.toList[pos]).toNat, 1) := by
  have h' : pos < s.size := by simpa using h
  have e : s.get! (pos + 0) = s.data.toList[pos] := by rw [Nat.add_zero]; exact byte_get h'
  simp only [Utf8.decode, e, ha, if_true]
theorem dec_ge {s : ByteArray} {pos : Nat} (h : pos < s.data.toList.length) (ha : ¬ (s.data.toList[pos]).toNat < 128) :
    128 ≤ (Utf8.decode s pos).1 ∧ 1 ≤ (Utf8.decode s pos).2 ∧ pos + (Utf8.decode s pos).2 ≤ s.data.toList.length ∧ ∀ k (hk : k < s.data.toList.length), pos < k → k < pos + (Utf8.decode s pos).2 → 128 ≤ (s.data.toList[k]).toNat := by
  have h' : pos < s.size := by simpa using h
  have hl : s.data.toList.length = s.size := by simp
  have e : s.get! (pos + 0) = s.data.toList[pos] := by rw [Nat.add_zero]; exact byte_get h'
  have hb : (s.data.toList[pos]).toNat < 256 := (s.data.toList[pos]).toNat_lt
  have cont : ∀ k, (decide (pos + k < s.size) && ((s.get! (pos + k)).toNat / 64 == 2)) = true → pos + k < s.data.toList.length ∧ ∀ hk : pos + k < s.data.toList.length, 128 ≤ (s.data.toList[pos + k]).toNat := by
    intro k hk
    simp only [Bool.and_eq_true, decide_eq_true_eq, beq_iff_eq] at hk
    refine ⟨by omega, fun hk2 => ?_⟩
    have := hk.2
    rw [byte_get hk.1] at this
    omega
  have one : 128 ≤ Utf8.runeError := by decide
  simp only [Utf8.decode, e, ha, if_false]
  split
  · next c =>
    simp only [Bool.and_eq_true, beq_iff_eq] at c
    obtain ⟨c0, c1⟩ := c
    obtain ⟨g1, g2⟩ := cont 1 (by simpa using c1)
    split
    · next c2 => exact ⟨c2, by simp, by omega, fun k hk h1 h2 => by
        obtain rfl : k = pos + 1 := by omega
        exact g2 hk⟩
    · exact ⟨one, by decide, by omega, fun k hk h1 h2 => by omega⟩
  · split
    · next c =>
      simp only [Bool.and_eq_true, beq_iff_eq] at c
      obtain ⟨⟨c0, c1⟩, c2⟩ := c
      obtain ⟨g1, g2⟩ := cont 1 (by simpa using c1)
      obtain ⟨g3, g4⟩ := cont 2 (by simpa using c2)
      split
      · next c3 =>
        simp only [Bool.and_eq_true, decide_eq_true_eq] at c3
        exact ⟨by omega, by simp, by omega, fun k hk h1 h2 => by
          rcases (show k = pos + 1 ∨ k = pos + 2 by omega) with rfl | rfl
          · exact g2 hk
          · exact g4 hk⟩
      · exact ⟨one, by decide, by omega, fun k hk h1 h2 => by omega⟩
    · split
      · next c =>
        simp only [Bool.and_eq_true, beq_iff_eq] at c
        obtain ⟨⟨⟨c0, c1⟩, c2⟩, c3⟩ := c
        obtain ⟨g1, g2⟩ := cont 1 (by simpa using c1)
        obtain ⟨g3, g4⟩ := cont 2 (by simpa using c2)
        obtain ⟨g5, g6⟩ := cont 3 (by simpa using c3)
        split
        · next c3 =>
          simp only [Bool.and_eq_true, decide_eq_true_eq] at c3
          exact ⟨by omega, by simp, by omega, fun k hk h1 h2 => by
            rcases (show k = pos + 1 ∨ k = pos + 2 ∨ k = pos + 3 by omega) with rfl | rfl | rfl
            · exact g2 hk
            · exact g4 hk
            · exact g6 hk⟩
        · exact ⟨one, by decide, by omega, fun k hk h1 h2 => by omega⟩
      · exact ⟨one, by decide, by omega, fun k hk h1 h2 => by omega⟩
/-- kinds of runes -/
def digI (r : Int) : Bool := decide (48 ≤ r) && decide (r ≤ 57)
def lttI (r : Int) : Bool := decide (97 ≤ r) && decide (r ≤ 122)
def innI (r : Int) : Bool := lttI r || digI r || decide (r = 45) || decide (r = 46)
def freI (r : Int) : Bool := !innI r && decide (r ≠ 58) && (decide (r < 65) || decide (90 < r))
def notI (r : Int) : Bool := decide (r ≠ 10)
theorem hi_dig (r : Int) (h : 128 ≤ r) : digI r = digI 128 := by simp [digI]; omega
theorem hi_inn (r : Int) (h : 128 ≤ r) : innI r = innI 128 := by simp [innI, digI, lttI]; omega
theorem hi_fre (r : Int) (h : 128 ≤ r) : freI r = freI 128 := by simp [freI, innI, digI, lttI]; omega
theorem hi_not (r : Int) (h : 128 ≤ r) : notI r = notI 128 := by simp [notI]; omega
theorem p_digit (r : Int) : PCalls Try.prog 55 [.int .i32 r] (.bool (digI r)) := by
  refine pcalls_of (by first | rfl | simp [free, free.frees, frees_str, frees_u8, frees_u16]) (by first | rfl | simp [free, free.frees, frees_str, frees_u8, frees_u16]) (acalls_of mixed J_token_digit_ok (Nat.le_of_ble_eq_true rfl) ?_); simp only [J_token_digit, wk,if_true,if_false,forall_const,implies_true,ne_eq,eq_self,Nat.reduceEqDiff,Nat.reduceAdd,Nat.reduceMul,Nat.reduceSub,Nat.reduceLeDiff,Nat.reduceLT,Int.reduceEq,Int.reduceLT,Int.reduceLE,Int.reduceAdd,Int.reduceSub,Int.reduceMul,Int.reduceNeg,Int.reduceNe,reduceCtorEq,Int.reduceToNat,↓reduceIte]
  refine ⟨fun e => ?_, fun e => ?_⟩ <;> congr 1 <;> simp [digI, e]
theorem p_letter (r : Int) : PCalls Try.prog 56 [.int .i32 r] (.bool (lttI r)) := by
  refine pcalls_of (by first | rfl | simp [free, free.frees, frees_str, frees_u8, frees_u16]) (by first | rfl | simp [free, free.frees, frees_str, frees_u8, frees_u16]) (acalls_of mixed J_token_letter_ok (Nat.le_of_ble_eq_true rfl) ?_); simp only [J_token_letter, wk,if_true,if_false,forall_const,implies_true,ne_eq,eq_self,Nat.reduceEqDiff,Nat.reduceAdd,Nat.reduceMul,Nat.reduceSub,Nat.reduceLeDiff,Nat.reduceLT,Int.reduceEq,Int.reduceLT,Int.reduceLE,Int.reduceAdd,Int.reduceSub,Int.reduceMul,Int.reduceNeg,Int.reduceNe,reduceCtorEq,Int.reduceToNat,↓reduceIte]
  refine ⟨fun e => ?_, fun e => ?_⟩ <;> congr 1 <;> simp [lttI, e]
theorem p_rdigit (r : Int) : PCalls Try.prog 74 [.int .i32 r] (.bool (digI r)) := by
  refine pcalls_of (by first | rfl | simp [free, free.frees, frees_str, frees_u8, frees_u16]) (by first | rfl | simp [free, free.frees, frees_str, frees_u8, frees_u16]) (acalls_of mixed J_ref04_digit_ok (Nat.le_of_ble_eq_true rfl) ?_); simp only [J_ref04_digit, wk,if_true,if_false,forall_const,implies_true,ne_eq,eq_self,Nat.reduceEqDiff,Nat.reduceAdd,Nat.reduceMul,Nat.reduceSub,Nat.reduceLeDiff,Nat.reduceLT,Int.reduceEq,Int.reduceLT,Int.reduceLE,Int.reduceAdd,Int.reduceSub,Int.reduceMul,Int.reduceNeg,Int.reduceNe,reduceCtorEq,Int.reduceToNat,↓reduceIte]
  refine ⟨fun e => ?_, fun e => ?_⟩ <;> congr 1 <;> simp [digI, e]
theorem p_rletter (r : Int) : PCalls Try.prog 72 [.int .i32 r] (.bool (lttI r)) := by
  refine pcalls_of (by first | rfl | simp [free, free.frees, frees_str, frees_u8, frees_u16]) (by first | rfl | simp [free, free.frees, frees_str, frees_u8, frees_u16]) (acalls_of mixed J_ref04_letter_ok (Nat.le_of_ble_eq_true rfl) ?_); simp only [J_ref04_letter, wk,if_true,if_false,forall_const,implies_true,ne_eq,eq_self,Nat.reduceEqDiff,Nat.reduceAdd,Nat.reduceMul,Nat.reduceSub,Nat.reduceLeDiff,Nat.reduceLT,Int.reduceEq,Int.reduceLT,Int.reduceLE,Int.reduceAdd,Int.reduceSub,Int.reduceMul,Int.reduceNeg,Int.reduceNe,reduceCtorEq,Int.reduceToNat,↓reduceIte]
  refine ⟨fun e => ?_, fun e => ?_⟩ <;> congr 1 <;> simp [lttI, e]
theorem p_not (r : Int) : PCalls Try.prog 33 [.int .i32 r] (.bool (notI r)) := by
  refine pcalls_of (by first | rfl | simp [free, free.frees, frees_str, frees_u8, frees_u16]) (by first | rfl | simp [free, free.frees, frees_str, frees_u8, frees_u16]) (acalls_of mixed J_token_All_1_ok (Nat.le_of_ble_eq_true rfl) ?_); simp only [J_token_All_1, wk,if_true,if_false,forall_const,implies_true,ne_eq,eq_self,Nat.reduceEqDiff,Nat.reduceAdd,Nat.reduceMul,Nat.reduceSub,Nat.reduceLeDiff,Nat.reduceLT,Int.reduceEq,Int.reduceLT,Int.reduceLE,Int.reduceAdd,Int.reduceSub,Int.reduceMul,Int.reduceNeg,Int.reduceNe,reduceCtorEq,Int.reduceToNat,↓reduceIte]
  rfl
theorem p_inName (r : Int) : PCalls Try.prog 76 [.int .i32 r] (.bool (innI r)) := by
  refine pcalls_of (by first | rfl | simp [free, free.frees, frees_str, frees_u8, frees_u16]) (by first | rfl | simp [free, free.frees, frees_str, frees_u8, frees_u16]) (acalls_of mixed J_token_inName_ok (Nat.le_of_ble_eq_true rfl) ?_); simp only [J_token_inName, wk,if_true,if_false,forall_const,implies_true,ne_eq,eq_self,Nat.reduceEqDiff,Nat.reduceAdd,Nat.reduceMul,Nat.reduceSub,Nat.reduceLeDiff,Nat.reduceLT,Int.reduceEq,Int.reduceLT,Int.reduceLE,Int.reduceAdd,Int.reduceSub,Int.reduceMul,Int.reduceNeg,Int.reduceNe,reduceCtorEq,Int.reduceToNat,↓reduceIte]
  have q := p_digit r
  refine PCalls.use (p_letter r) ?_; simp only [wk,if_true,if_false,forall_const,implies_true,ne_eq,eq_self,Nat.reduceEqDiff,Nat.reduceAdd,Nat.reduceMul,Nat.reduceSub,Nat.reduceLeDiff,Nat.reduceLT,Int.reduceEq,Int.reduceLT,Int.reduceLE,Int.reduceAdd,Int.reduceSub,Int.reduceMul,Int.reduceNeg,Int.reduceNe,reduceCtorEq,Int.reduceToNat,↓reduceIte]
  repeat' (first | (refine PCalls.use q ?_; simp only [wk,if_true,if_false,forall_const,implies_true,ne_eq,eq_self,Nat.reduceEqDiff,Nat.reduceAdd,Nat.reduceMul,Nat.reduceSub,Nat.reduceLeDiff,Nat.reduceLT,Int.reduceEq,Int.reduceLT,Int.reduceLE,Int.reduceAdd,Int.reduceSub,Int.reduceMul,Int.reduceNeg,Int.reduceNe,reduceCtorEq,Int.reduceToNat,↓reduceIte]) | (refine And.intro ?_ ?_) | intro _)
  all_goals (congr 1; simp_all [innI])
theorem p_rinName (r : Int) : PCalls Try.prog 81 [.int .i32 r] (.bool (innI r)) := by
  refine pcalls_of (by first | rfl | simp [free, free.frees, frees_str, frees_u8, frees_u16]) (by first | rfl | simp [free, free.frees, frees_str, frees_u8, frees_u16]) (acalls_of mixed J_ref04_inName_ok (Nat.le_of_ble_eq_true rfl) ?_); simp only [J_ref04_inName, wk,if_true,if_false,forall_const,implies_true,ne_eq,eq_self,Nat.reduceEqDiff,Nat.reduceAdd,Nat.reduceMul,Nat.reduceSub,Nat.reduceLeDiff,Nat.reduceLT,Int.reduceEq,Int.reduceLT,Int.reduceLE,Int.reduceAdd,Int.reduceSub,Int.reduceMul,Int.reduceNeg,Int.reduceNe,reduceCtorEq,Int.reduceToNat,↓reduceIte]
  have q := p_rdigit r
  refine PCalls.use (p_rletter r) ?_; simp only [wk,if_true,if_false,forall_const,implies_true,ne_eq,eq_self,Nat.reduceEqDiff,Nat.reduceAdd,Nat.reduceMul,Nat.reduceSub,Nat.reduceLeDiff,Nat.reduceLT,Int.reduceEq,Int.reduceLT,Int.reduceLE,Int.reduceAdd,Int.reduceSub,Int.reduceMul,Int.reduceNeg,Int.reduceNe,reduceCtorEq,Int.reduceToNat,↓reduceIte]
  repeat' (first | (refine PCalls.use q ?_; simp only [wk,if_true,if_false,forall_const,implies_true,ne_eq,eq_self,Nat.reduceEqDiff,Nat.reduceAdd,Nat.reduceMul,Nat.reduceSub,Nat.reduceLeDiff,Nat.reduceLT,Int.reduceEq,Int.reduceLT,Int.reduceLE,Int.reduceAdd,Int.reduceSub,Int.reduceMul,Int.reduceNeg,Int.reduceNe,reduceCtorEq,Int.reduceToNat,↓reduceIte]) | (refine And.intro ?_ ?_) | intro _)
  all_goals (congr 1; simp_all [innI])
theorem p_free (r : Int) : PCalls Try.prog 58 [.int .i32 r] (.bool (freI r)) := by
  refine pcalls_of (by first | rfl | simp [free, free.frees, frees_str, frees_u8, frees_u16]) (by first | rfl | simp [free, free.frees, frees_str, frees_u8, frees_u16]) (acalls_of mixed J_token_free_ok (Nat.le_of_ble_eq_true rfl) ?_); simp only [J_token_free, wk,if_true,if_false,forall_const,implies_true,ne_eq,eq_self,Nat.reduceEqDiff,Nat.reduceAdd,Nat.reduceMul,Nat.reduceSub,Nat.reduceLeDiff,Nat.reduceLT,Int.reduceEq,Int.reduceLT,Int.reduceLE,Int.reduceAdd,Int.reduceSub,Int.reduceMul,Int.reduceNeg,Int.reduceNe,reduceCtorEq,Int.reduceToNat,↓reduceIte]
  refine PCalls.use (p_inName r) ?_; simp only [wk,if_true,if_false,forall_const,implies_true,ne_eq,eq_self,Nat.reduceEqDiff,Nat.reduceAdd,Nat.reduceMul,Nat.reduceSub,Nat.reduceLeDiff,Nat.reduceLT,Int.reduceEq,Int.reduceLT,Int.reduceLE,Int.reduceAdd,Int.reduceSub,Int.reduceMul,Int.reduceNeg,Int.reduceNe,reduceCtorEq,Int.reduceToNat,↓reduceIte]
  repeat' (first | (refine And.intro ?_ ?_) | intro _)
  all_goals (congr 1; unfold freI; simp_all; try omega)
def keyW (s : ByteArray) : Int := if s = ⟨#[97, 110, 100]⟩ then 2 else if s = ⟨#[102, 111, 114]⟩ then 3 else if s = ⟨#[97, 115]⟩ then 5 else 0
theorem p_keyword (s : ByteArray) : PCalls Try.prog 60 [.str s] (.int .i64 (keyW s)) := by
  refine pcalls_of (by first | rfl | simp [free, free.frees, frees_str, frees_u8, frees_u16]) (by first | rfl | simp [free, free.frees, frees_str, frees_u8, frees_u16]) (acalls_of mixed J_token_keyword_ok (Nat.le_of_ble_eq_true rfl) ?_); simp only [J_token_keyword, wk,if_true,if_false,forall_const,implies_true,ne_eq,eq_self,Nat.reduceEqDiff,Nat.reduceAdd,Nat.reduceMul,Nat.reduceSub,Nat.reduceLeDiff,Nat.reduceLT,Int.reduceEq,Int.reduceLT,Int.reduceLE,Int.reduceAdd,Int.reduceSub,Int.reduceMul,Int.reduceNeg,Int.reduceNe,reduceCtorEq,Int.reduceToNat,↓reduceIte]
  repeat' (first | (refine And.intro ?_ ?_) | intro _)
  all_goals (congr 1; simp_all [keyW])
theorem p_rkeyword (s : ByteArray) : PCalls Try.prog 50 [.str s] (.int .i64 (keyW s)) := by
  refine pcalls_of (by first | rfl | simp [free, free.frees, frees_str, frees_u8, frees_u16]) (by first | rfl | simp [free, free.frees, frees_str, frees_u8, frees_u16]) (acalls_of mixed J_ref04_Keyword_ok (Nat.le_of_ble_eq_true rfl) ?_); simp only [J_ref04_Keyword, wk,if_true,if_false,forall_const,implies_true,ne_eq,eq_self,Nat.reduceEqDiff,Nat.reduceAdd,Nat.reduceMul,Nat.reduceSub,Nat.reduceLeDiff,Nat.reduceLT,Int.reduceEq,Int.reduceLT,Int.reduceLE,Int.reduceAdd,Int.reduceSub,Int.reduceMul,Int.reduceNeg,Int.reduceNe,reduceCtorEq,Int.reduceToNat,↓reduceIte]
  repeat' (first | (refine And.intro ?_ ?_) | intro _)
  all_goals (congr 1; simp_all [keyW])
def aheW (s : ByteArray) : Int := if s = ⟨#[107, 101, 121]⟩ then 1 else if s = ⟨#[99, 104, 97, 110]⟩ then 2 else if s = ⟨#[103, 114, 111, 117, 112]⟩ then 4 else if s = ⟨#[114, 111, 108, 101]⟩ then 5 else 0
theorem p_ahead (s : ByteArray) : PCalls Try.prog 77 [.str s] (.int .i64 (aheW s)) := by
  refine pcalls_of (by first | rfl | simp [free, free.frees, frees_str, frees_u8, frees_u16]) (by first | rfl | simp [free, free.frees, frees_str, frees_u8, frees_u16]) (acalls_of mixed J_token_ahead_ok (Nat.le_of_ble_eq_true rfl) ?_); simp only [J_token_ahead, wk,if_true,if_false,forall_const,implies_true,ne_eq,eq_self,Nat.reduceEqDiff,Nat.reduceAdd,Nat.reduceMul,Nat.reduceSub,Nat.reduceLeDiff,Nat.reduceLT,Int.reduceEq,Int.reduceLT,Int.reduceLE,Int.reduceAdd,Int.reduceSub,Int.reduceMul,Int.reduceNeg,Int.reduceNe,reduceCtorEq,Int.reduceToNat,↓reduceIte]
  repeat' (first | (refine And.intro ?_ ?_) | intro _)
  all_goals (congr 1; simp_all [aheW])
def preW (k : Int) : ByteArray := if k = 1 then ⟨#[107, 101, 121, 58]⟩ else if k = 2 then ⟨#[99, 104, 97, 110, 58]⟩ else if k = 4 then ⟨#[103, 114, 111, 117, 112, 58]⟩ else if k = 5 then ⟨#[114, 111, 108, 101, 58]⟩ else ⟨#[]⟩
theorem p_prefix (k : Int) : PCalls Try.prog 51 [.int .i64 k] (.str (preW k)) := by
  refine pcalls_of (by first | rfl | simp [free, free.frees, frees_str, frees_u8, frees_u16]) (by first | rfl | simp [free, free.frees, frees_str, frees_u8, frees_u16]) (acalls_of mixed J_ref04_Prefix_ok (Nat.le_of_ble_eq_true rfl) ?_); simp only [J_ref04_Prefix, wk,if_true,if_false,forall_const,implies_true,ne_eq,eq_self,Nat.reduceEqDiff,Nat.reduceAdd,Nat.reduceMul,Nat.reduceSub,Nat.reduceLeDiff,Nat.reduceLT,Int.reduceEq,Int.reduceLT,Int.reduceLE,Int.reduceAdd,Int.reduceSub,Int.reduceMul,Int.reduceNeg,Int.reduceNe,reduceCtorEq,Int.reduceToNat,↓reduceIte]
  repeat' (first | (refine And.intro ?_ ?_) | intro _)
  all_goals (congr 1; simp_all [preW])
/-- how many bytes from the beginning are such -/
def stopN (q : Int → Bool) (l : List UInt8) : Nat := (l.takeWhile fun b => q b.toNat).length
theorem tw_len {α : Type} {f : α → Bool} : ∀ {l : List α} {p : Nat}, p ≤ l.length → (∀ b ∈ l.take p, f b = true) → (∀ h : p < l.length, f l[p] = false) → (l.takeWhile f).length = p
  | [], p, h, _, _ => by simp at h; simp [h]
  | b :: l, 0, _, _, h => by
    have := h (by simp)
    simp at this
    simp [List.takeWhile_cons, this]
  | b :: l, p + 1, h, h1, h2 => by
    have hb := h1 b (by simp)
    have := tw_len (f := f) (l := l) (p := p) (by simpa using h) (fun x hx => h1 x (by simp [hx])) (fun hp => by have h3 := h2 (by simp; omega); rwa [List.getElem_cons_succ] at h3)
    simp [List.takeWhile_cons, hb, this]
set_option maxRecDepth 100000 in
set_option maxHeartbeats 4000000 in
theorem p_stop {f : FuncId} {q : Int → Bool} (hf : ∀ r : Int, PCalls Try.prog f [.int .i32 r] (.bool (q r))) (hi : ∀ r, 128 ≤ r → q r = q 128) (s : ByteArray) (k : Nat) (hs : s.size ≤ 1000000) (hk : k ≤ s.size) :
    PCalls Try.prog 32 [.str s, .int .i64 k, .fn f []] (.int .i64 (k + stopN q (s.data.toList.drop k))) := by
  refine pcalls_of (by first | rfl | simp [free, free.frees, frees_str, frees_u8, frees_u16]) (by first | rfl | simp [free, free.frees, frees_str, frees_u8, frees_u16]) (acalls_of mixed J_token_stop_ok (Nat.le_of_ble_eq_true rfl) ?_); simp only [J_token_stop, wk,if_true,if_false,forall_const,implies_true,ne_eq,eq_self,Nat.reduceEqDiff,Nat.reduceAdd,Nat.reduceMul,Nat.reduceSub,Nat.reduceLeDiff,Nat.reduceLT,Int.reduceEq,Int.reduceLT,Int.reduceLE,Int.reduceAdd,Int.reduceSub,Int.reduceMul,Int.reduceNeg,Int.reduceNe,reduceCtorEq,Int.reduceToNat,↓reduceIte]
  refine ⟨⟨by omega, by omega⟩, ?_⟩
  obtain ⟨S, hS⟩ : ∃ S, S = s.extract k s.size := ⟨_, rfl⟩
  have hl : S.data.toList = s.data.toList.drop k := by rw [hS]; simp only [ByteArray.data_extract, Array.toList_extract, List.extract_eq_take_drop]; rw [List.take_of_length_le (by simp)]
  have hSz : S.size ≤ 1000000 := by rw [hS]; simp; omega
  rw [← hl]
  simp only [Int.toNat_natCast, ← hS]
  refine W_loop (fun n fr h' => ∃ p : Nat, p ≤ S.data.toList.length ∧ n = S.data.toList.length - p ∧ fr = [(0, .str s), (1, .int .i64 k), (2, .fn f []), (12, .itr S p)] ∧ ∀ b ∈ S.data.toList.take p, q b.toNat = true) S.data.toList.length ⟨0, by omega, by omega, rfl, by simp⟩ ?_
  rintro n fr h' ⟨p, hp, rfl, rfl, hall⟩
  have hlen : S.data.toList.length = S.size := by simp
  simp only [J_token_stop_j2, wk,if_true,if_false,forall_const,implies_true,ne_eq,eq_self,Nat.reduceEqDiff,Nat.reduceAdd,Nat.reduceMul,Nat.reduceSub,Nat.reduceLeDiff,Nat.reduceLT,Int.reduceEq,Int.reduceLT,Int.reduceLE,Int.reduceAdd,Int.reduceSub,Int.reduceMul,Int.reduceNeg,Int.reduceNe,reduceCtorEq,Int.reduceToNat,↓reduceIte]
  refine ⟨fun hlt => ?_, fun hge => ?_⟩
  · have hpl : p < S.data.toList.length := by omega
    have hfr := hf ((Utf8.decode S p).1 : Nat)
    have hstop : q (Utf8.decode S p).1 = q (S.data.toList[p]).toNat := by
      by_cases ha : (S.data.toList[p]).toNat < 128
      · rw [dec_lt hpl ha]
      · rw [hi _ (by have := (dec_ge hpl ha).1; omega), hi (S.data.toList[p]).toNat (by omega)]
    refine PCalls.use (hfr) ?_; simp only [wk,if_true,if_false,forall_const,implies_true,ne_eq,eq_self,Nat.reduceEqDiff,Nat.reduceAdd,Nat.reduceMul,Nat.reduceSub,Nat.reduceLeDiff,Nat.reduceLT,Int.reduceEq,Int.reduceLT,Int.reduceLE,Int.reduceAdd,Int.reduceSub,Int.reduceMul,Int.reduceNeg,Int.reduceNe,reduceCtorEq,Int.reduceToNat,↓reduceIte]
    refine ⟨fun e => ?_, fun e => ?_⟩
    · have h1 : stopN q S.data.toList = p := tw_len hp hall (fun _ => by rw [← hstop]; exact e)
      rw [h1]
      exact ⟨inR_of (by omega) (by omega), rfl⟩
    · by_cases ha : (S.data.toList[p]).toNat < 128
      · rw [dec_lt hpl ha] at e ⊢
        refine ⟨S.data.toList.length - (p + 1), by omega, p + 1, by omega, rfl, rfl, fun b hb => ?_⟩
        rw [List.take_succ_eq_append_getElem hpl] at hb
        rcases List.mem_append.1 hb with hb | hb
        · exact hall b hb
        · simp at hb; subst hb; exact e
      · obtain ⟨d1, d2, d3, d4⟩ := dec_ge hpl ha
        refine ⟨S.data.toList.length - (p + (Utf8.decode S p).2), by omega, p + (Utf8.decode S p).2, by omega, rfl, rfl, fun b hb => ?_⟩
        obtain ⟨i, hi1, rfl⟩ := List.mem_iff_getElem.1 hb
        simp only [List.length_take] at hi1
        rw [List.getElem_take]
        rcases Nat.lt_trichotomy i p with h1 | h1 | h1
        · exact hall _ (List.mem_iff_getElem.2 ⟨i, by simp; omega, by rw [List.getElem_take]⟩)
        · subst h1; rw [← hstop]; exact e
        · have h2 := d4 i (by omega) h1 (by omega)
          rw [hi _ (by omega)] at e
          rw [hi _ (by omega)]; exact e
  · rw [List.take_of_length_le (by omega)] at hall
    simp only [J_token_stop_j1, wk,if_true,if_false,forall_const,implies_true,ne_eq,eq_self,Nat.reduceEqDiff,Nat.reduceAdd,Nat.reduceMul,Nat.reduceSub,Nat.reduceLeDiff,Nat.reduceLT,Int.reduceEq,Int.reduceLT,Int.reduceLE,Int.reduceAdd,Int.reduceSub,Int.reduceMul,Int.reduceNeg,Int.reduceNe,reduceCtorEq,Int.reduceToNat,↓reduceIte]
    have h1 : stopN q S.data.toList = S.data.toList.length := tw_len (Nat.le_refl _) (by rw [List.take_length]; exact hall) (fun h => by omega)
    rw [h1, hl, List.length_drop]
    congr 1
    simp only [Array.length_toList, ByteArray.size_data]
    omega
end Go.Proofs.Ytmbijfcjfhdnjaa

/- The reference's Rune, fine, name, number, begins, isSign. -/
namespace Go.Proofs.Ytmbijfcjfhdnjaa
set_option linter.unusedSimpArgs false
set_option linter.unusedVariables false
open Go.RowKit Go.Lib

/-- the rune at a place, and the place behind it -/
def runeR (s : ByteArray) (p : Nat) : Int := if p < s.size then (Utf8.decode s p).1 else -1
def runeN (s : ByteArray) (p : Nat) : Nat := if p < s.size then p + (Utf8.decode s p).2 else s.size
/-- a place where a rune may begin -/
def atB (s : ByteArray) (p : Nat) : Prop := p = 0 ∨ ∃ h : p - 1 < s.data.toList.length, (s.data.toList[p - 1]).toNat < 128
theorem len_size (s : ByteArray) : s.data.toList.length = s.size := by simp
theorem step_le {s : ByteArray} {p a : Nat} (hb : atB s a) (hp : p < a) (ha : a ≤ s.size) : p + (Utf8.decode s p).2 ≤ a := by
  have hl := len_size s
  have hpl : p < s.data.toList.length := by omega
  rcases hb with hb | ⟨h, hb⟩
  · omega
  · by_cases h1 : (s.data.toList[p]).toNat < 128
    · rw [dec_lt hpl h1]; show p + 1 ≤ a; omega
    · obtain ⟨d1, d2, d3, d4⟩ := dec_ge hpl h1
      rcases Nat.lt_or_ge a (p + (Utf8.decode s p).2) with h2 | h2
      · by_cases h3 : a - 1 = p
        · simp only [h3] at hb; omega
        · have := d4 (a - 1) h (by omega) (by omega)
          omega
      · exact h2
theorem step_one {s : ByteArray} {p : Nat} (hp : p < s.size) : 1 ≤ (Utf8.decode s p).2 ∧ p + (Utf8.decode s p).2 ≤ s.size := by
  have hl := len_size s
  have hpl : p < s.data.toList.length := by omega
  by_cases h1 : (s.data.toList[p]).toNat < 128
  · rw [dec_lt hpl h1]; exact ⟨Nat.le_refl _, by show p + 1 ≤ s.size; omega⟩
  · obtain ⟨d1, d2, d3, d4⟩ := dec_ge hpl h1
    exact ⟨d2, by omega⟩
set_option maxRecDepth 100000 in
set_option maxHeartbeats 4000000 in
theorem p_rune (s : ByteArray) (a : Nat) (hs : s.size ≤ 1000000) (ha : a ≤ s.size) (hb : atB s a) :
    PCalls Try.prog 71 [.str s, .int .i64 a] (.tup [.int .i32 (runeR s a), .int .i64 (runeN s a)]) := by
  refine pcalls_of (by first | rfl | simp [free, free.frees, frees_str, frees_u8, frees_u16]) (by first | rfl | simp [free, free.frees, frees_str, frees_u8, frees_u16]) (acalls_of mixed J_ref04_Rune_ok (Nat.le_of_ble_eq_true rfl) ?_); simp only [J_ref04_Rune, wk,if_true,if_false,forall_const,implies_true,ne_eq,eq_self,Nat.reduceEqDiff,Nat.reduceAdd,Nat.reduceMul,Nat.reduceSub,Nat.reduceLeDiff,Nat.reduceLT,Int.reduceEq,Int.reduceLT,Int.reduceLE,Int.reduceAdd,Int.reduceSub,Int.reduceMul,Int.reduceNeg,Int.reduceNe,reduceCtorEq,Int.reduceToNat,↓reduceIte]
  refine W_loop (fun n fr h' => ∃ (p : Nat) (g : Int), p ≤ s.size ∧ n = s.size - p ∧ fr = [(0, .str s), (1, .int .i64 a), (6, .int .i32 g), (10, .itr s p)] ∧ (p ≤ a → g = -1) ∧ (a < p → g = (Utf8.decode s a).1 ∧ p = a + (Utf8.decode s a).2)) s.size ⟨0, -1, by omega, by omega, rfl, fun _ => rfl, fun h => by omega⟩ ?_
  rintro n fr h' ⟨p, g, hp, rfl, rfl, hg1, hg2⟩
  simp only [J_ref04_Rune_j3, J_ref04_Rune_j2, wk,if_true,if_false,forall_const,implies_true,ne_eq,eq_self,Nat.reduceEqDiff,Nat.reduceAdd,Nat.reduceMul,Nat.reduceSub,Nat.reduceLeDiff,Nat.reduceLT,Int.reduceEq,Int.reduceLT,Int.reduceLE,Int.reduceAdd,Int.reduceSub,Int.reduceMul,Int.reduceNeg,Int.reduceNe,reduceCtorEq,Int.reduceToNat,↓reduceIte]
  refine ⟨fun hlt => ?_, fun hge => ?_⟩
  · have hone := step_one hlt
    refine ⟨fun e1 => ?_, fun e1 => ?_⟩
    · have : p = a := by omega
      subst this
      refine ⟨fun h => by omega, fun _ => ⟨s.size - (p + (Utf8.decode s p).2), by omega, p + (Utf8.decode s p).2, _, by omega, rfl, rfl, fun h => by omega, fun _ => ⟨rfl, rfl⟩⟩⟩
    · refine ⟨fun e2 => ?_, fun e2 => ?_⟩
      · obtain ⟨k1, k2⟩ := hg2 (by omega)
        have ha2 : a < s.size := by omega
        unfold runeR runeN
        rw [if_pos ha2, if_pos ha2, k1, k2]
      · have hpa : p < a := by omega
        have hle := step_le hb hpa ha
        refine ⟨s.size - (p + (Utf8.decode s p).2), by omega, p + (Utf8.decode s p).2, _, by omega, rfl, rfl, fun _ => hg1 (by omega), fun h => by omega⟩
  · simp only [J_ref04_Rune_j1, wk,if_true,if_false,forall_const,implies_true,ne_eq,eq_self,Nat.reduceEqDiff,Nat.reduceAdd,Nat.reduceMul,Nat.reduceSub,Nat.reduceLeDiff,Nat.reduceLT,Int.reduceEq,Int.reduceLT,Int.reduceLE,Int.reduceAdd,Int.reduceSub,Int.reduceMul,Int.reduceNeg,Int.reduceNe,reduceCtorEq,Int.reduceToNat,↓reduceIte]
    have hps : p = s.size := by omega
    unfold runeR runeN
    by_cases ha2 : a < s.size
    · obtain ⟨k1, k2⟩ := hg2 (by omega)
      rw [if_pos ha2, if_pos ha2, k1, ← k2, hps]
    · rw [if_neg ha2, if_neg ha2, hg1 (by omega)]
/-- may these bytes stand behind a name? -/
def fineL : List UInt8 → Bool
  | [] => true
  | b :: _ => freI b.toNat
theorem rune_fre {q : Int → Bool} (hi : ∀ r, 128 ≤ r → q r = q 128) {s : ByteArray} {a : Nat} (h : a < s.data.toList.length) : q (runeR s a) = q (s.data.toList[a]).toNat := by
  have hl := len_size s
  unfold runeR
  rw [if_pos (by omega)]
  by_cases ha : (s.data.toList[a]).toNat < 128
  · rw [dec_lt h ha]
  · rw [hi _ (by have := (dec_ge h ha).1; omega), hi (s.data.toList[a]).toNat (by omega)]
theorem fine_eq (s : ByteArray) (a : Nat) (ha : a ≤ s.size) : freI (runeR s a) = fineL (s.data.toList.drop a) := by
  have hl := len_size s
  by_cases h : a < s.data.toList.length
  · rw [rune_fre hi_fre h, List.drop_eq_getElem_cons h]; rfl
  · rw [List.drop_of_length_le (by omega)]
    unfold runeR
    rw [if_neg (by omega)]
    rfl
theorem p_fine (s : ByteArray) (a : Nat) (hs : s.size ≤ 1000000) (ha : a ≤ s.size) (hb : atB s a) :
    PCalls Try.prog 73 [.str s, .int .i64 a] (.bool (fineL (s.data.toList.drop a))) := by
  refine pcalls_of (by first | rfl | simp [free, free.frees, frees_str, frees_u8, frees_u16]) (by first | rfl | simp [free, free.frees, frees_str, frees_u8, frees_u16]) (acalls_of mixed J_ref04_fine_ok (Nat.le_of_ble_eq_true rfl) ?_); simp only [J_ref04_fine, wk,if_true,if_false,forall_const,implies_true,ne_eq,eq_self,Nat.reduceEqDiff,Nat.reduceAdd,Nat.reduceMul,Nat.reduceSub,Nat.reduceLeDiff,Nat.reduceLT,Int.reduceEq,Int.reduceLT,Int.reduceLE,Int.reduceAdd,Int.reduceSub,Int.reduceMul,Int.reduceNeg,Int.reduceNe,reduceCtorEq,Int.reduceToNat,↓reduceIte]
  refine PCalls.use (p_rune s a hs ha hb) ?_; simp only [wk,if_true,if_false,forall_const,implies_true,ne_eq,eq_self,Nat.reduceEqDiff,Nat.reduceAdd,Nat.reduceMul,Nat.reduceSub,Nat.reduceLeDiff,Nat.reduceLT,Int.reduceEq,Int.reduceLT,Int.reduceLE,Int.reduceAdd,Int.reduceSub,Int.reduceMul,Int.reduceNeg,Int.reduceNe,reduceCtorEq,Int.reduceToNat,↓reduceIte]
  refine PCalls.use (p_rinName (runeR s a)) ?_; simp only [wk,if_true,if_false,forall_const,implies_true,ne_eq,eq_self,Nat.reduceEqDiff,Nat.reduceAdd,Nat.reduceMul,Nat.reduceSub,Nat.reduceLeDiff,Nat.reduceLT,Int.reduceEq,Int.reduceLT,Int.reduceLE,Int.reduceAdd,Int.reduceSub,Int.reduceMul,Int.reduceNeg,Int.reduceNe,reduceCtorEq,Int.reduceToNat,↓reduceIte]
  have e := fine_eq s a ha
  rw [← e]
  repeat' (first | (refine And.intro ?_ ?_) | intro _)
  all_goals (congr 1; unfold freI; simp_all; try omega)
/-- a name's length at the beginning of bytes -/
def nameL (l : List UInt8) : Option Nat := match l with
  | [] => none
  | b :: r => if lttI b.toNat = true ∧ stopN innI (b :: r) ≤ 24 ∧ fineL ((b :: r).drop (stopN innI (b :: r))) = true then some (stopN innI (b :: r)) else none
theorem stopN_le (q : Int → Bool) (l : List UInt8) : stopN q l ≤ l.length := by
  unfold stopN
  exact (List.takeWhile_prefix _).length_le
theorem stopN_at {q : Int → Bool} : ∀ {l : List UInt8} {i : Nat} (h : i < l.length), i < stopN q l → q (l[i]).toNat = true
  | [], i, h, _ => by simp at h
  | b :: l, i, h, hi => by
    by_cases hb : q b.toNat = true
    · have e : stopN q (b :: l) = stopN q l + 1 := by unfold stopN; simp [List.takeWhile_cons, hb]
      cases i with
      | zero => exact hb
      | succ i =>
        rw [List.getElem_cons_succ]
        exact stopN_at (by simpa using h) (by omega)
    · have e : stopN q (b :: l) = 0 := by unfold stopN; simp [List.takeWhile_cons, hb]
      omega
theorem stopN_end {q : Int → Bool} : ∀ {l : List UInt8} (h : stopN q l < l.length), q (l[stopN q l]).toNat = false
  | [], h => by simp at h
  | b :: l, h => by
    by_cases hb : q b.toNat = true
    · have e : stopN q (b :: l) = stopN q l + 1 := by unfold stopN; simp [List.takeWhile_cons, hb]
      have := stopN_end (q := q) (l := l) (by rw [e] at h; simpa using h)
      simp only [e, List.getElem_cons_succ]
      exact this
    · have e : stopN q (b :: l) = 0 := by unfold stopN; simp [List.takeWhile_cons, hb]
      simp only [e, List.getElem_cons_zero]
      simpa using hb
/-- behind what is such and not beyond ASCII a rune may begin -/
theorem atB_stop {q : Int → Bool} (hq : ∀ r, 128 ≤ r → q r = false) {s : ByteArray} {a : Nat} (ha : a ≤ s.size) (hb : atB s a) (n : Nat) (hn : n ≤ stopN q (s.data.toList.drop a)) : atB s (a + n) := by
  have hl := len_size s
  have hle := stopN_le q (s.data.toList.drop a)
  rw [List.length_drop] at hle
  cases n with
  | zero => exact hb
  | succ n =>
    right
    refine ⟨by omega, ?_⟩
    have h1 : n < (s.data.toList.drop a).length := by rw [List.length_drop]; omega
    have := stopN_at (q := q) h1 (by omega)
    rw [List.getElem_drop] at this
    have e : a + (n + 1) - 1 = a + n := by omega
    simp only [e]
    by_cases hc : (s.data.toList[a + n]).toNat < 128
    · exact hc
    · rw [hq _ (by omega)] at this; cases this
theorem lo_inn (r : Int) (h : 128 ≤ r) : innI r = false := by rw [hi_inn r h]; rfl
theorem lo_dig (r : Int) (h : 128 ≤ r) : digI r = false := by rw [hi_dig r h]; rfl
theorem hi_ltt (r : Int) (h : 128 ≤ r) : lttI r = lttI 128 := by simp [lttI]; omega
theorem byte_at {s : ByteArray} {i : Nat} (h : i < s.data.toList.length) : byteAt s i = (s.data.toList[i]).toNat := by
  unfold byteAt; rw [List.getElem?_eq_getElem h]; rfl
theorem conv_u8 (b : UInt8) : IntKind.i32.wrap (b.toNat : Int) = b.toNat := by
  have := b.toNat_lt
  rw [IntKind.wrap_i32]; omega
/-- what a loop over such bytes has seen -/
theorem stop_more {q : Int → Bool} {l : List UInt8} {n : Nat} (h : n < l.length) (hn : n ≤ stopN q l) (hq : q (l[n]).toNat = true) : n + 1 ≤ stopN q l := by
  rcases Nat.lt_or_ge n (stopN q l) with h1 | h1
  · exact h1
  · have e : stopN q l = n := by omega
    have := stopN_end (q := q) (l := l) (by omega)
    simp only [e] at this
    rw [hq] at this; cases this
theorem stop_done {q : Int → Bool} {l : List UInt8} {n : Nat} (h : n < l.length) (hn : n ≤ stopN q l) (hq : q (l[n]).toNat = false) : stopN q l = n := by
  rcases Nat.lt_or_ge n (stopN q l) with h1 | h1
  · have := stopN_at h h1; rw [hq] at this; cases this
  · omega
def rnameV (s : ByteArray) (a : Nat) : AV := match nameL (s.data.toList.drop a) with
  | some n => .tup [.str (s.extract a (a + n)), .int .i64 (a + n : Nat)]
  | none => .tup [.str ⟨#[]⟩, .int .i64 (-1)]
theorem free_rnameV (s : ByteArray) (a : Nat) : free (rnameV s a) = true := by unfold rnameV; split <;> rfl
set_option maxRecDepth 100000 in
set_option maxHeartbeats 4000000 in
theorem p_rname (s : ByteArray) (a : Nat) (hs : s.size ≤ 1000000) (ha : a ≤ s.size) (hb : atB s a) :
    PCalls Try.prog 70 [.str s, .int .i64 a] (rnameV s a) := by
  have hl := len_size s
  refine pcalls_of rfl (free_rnameV s a) (acalls_of mixed J_ref04_name_ok (Nat.le_of_ble_eq_true rfl) ?_); simp only [J_ref04_name, wk,if_true,if_false,forall_const,implies_true,ne_eq,eq_self,Nat.reduceEqDiff,Nat.reduceAdd,Nat.reduceMul,Nat.reduceSub,Nat.reduceLeDiff,Nat.reduceLT,Int.reduceEq,Int.reduceLT,Int.reduceLE,Int.reduceAdd,Int.reduceSub,Int.reduceMul,Int.reduceNeg,Int.reduceNe,reduceCtorEq,Int.reduceToNat,↓reduceIte]
  refine PCalls.use (p_rune s a hs ha hb) ?_; simp only [wk,if_true,if_false,forall_const,implies_true,ne_eq,eq_self,Nat.reduceEqDiff,Nat.reduceAdd,Nat.reduceMul,Nat.reduceSub,Nat.reduceLeDiff,Nat.reduceLT,Int.reduceEq,Int.reduceLT,Int.reduceLE,Int.reduceAdd,Int.reduceSub,Int.reduceMul,Int.reduceNeg,Int.reduceNe,reduceCtorEq,Int.reduceToNat,↓reduceIte]
  refine PCalls.use (p_rletter (runeR s a)) ?_; simp only [wk,if_true,if_false,forall_const,implies_true,ne_eq,eq_self,Nat.reduceEqDiff,Nat.reduceAdd,Nat.reduceMul,Nat.reduceSub,Nat.reduceLeDiff,Nat.reduceLT,Int.reduceEq,Int.reduceLT,Int.reduceLE,Int.reduceAdd,Int.reduceSub,Int.reduceMul,Int.reduceNeg,Int.reduceNe,reduceCtorEq,Int.reduceToNat,↓reduceIte]
  cases hd : s.data.toList.drop a with
  | nil =>
    have : ¬ a < s.size := by
      intro h
      rw [List.drop_eq_getElem_cons (by omega)] at hd; cases hd
    have e : runeR s a = -1 := by unfold runeR; rw [if_neg this]
    rw [e]
    simp only [rnameV, hd, nameL, show lttI (-1) = false from rfl, wk,if_true,if_false,forall_const,implies_true,ne_eq,eq_self,Nat.reduceEqDiff,Nat.reduceAdd,Nat.reduceMul,Nat.reduceSub,Nat.reduceLeDiff,Nat.reduceLT,Int.reduceEq,Int.reduceLT,Int.reduceLE,Int.reduceAdd,Int.reduceSub,Int.reduceMul,Int.reduceNeg,Int.reduceNe,reduceCtorEq,Int.reduceToNat,↓reduceIte]
  | cons b r =>
    have hal : a < s.data.toList.length := by
      rcases Nat.lt_or_ge a s.data.toList.length with h | h
      · exact h
      · rw [List.drop_of_length_le h] at hd; cases hd
    have hba : s.data.toList[a] = b := by
      rw [List.drop_eq_getElem_cons hal] at hd
      simp only [List.cons.injEq] at hd
      exact hd.1
    have e : lttI (runeR s a) = lttI b.toNat := by rw [rune_fre hi_ltt hal, hba]
    rw [e]
    by_cases hb1 : lttI b.toNat = true
    · simp only [hb1, wk,if_true,if_false,forall_const,implies_true,ne_eq,eq_self,Nat.reduceEqDiff,Nat.reduceAdd,Nat.reduceMul,Nat.reduceSub,Nat.reduceLeDiff,Nat.reduceLT,Int.reduceEq,Int.reduceLT,Int.reduceLE,Int.reduceAdd,Int.reduceSub,Int.reduceMul,Int.reduceNeg,Int.reduceNe,reduceCtorEq,Int.reduceToNat,↓reduceIte]
      obtain ⟨L, hL⟩ : ∃ L, L = s.data.toList.drop a := ⟨_, rfl⟩
      have hLl : L.length = s.size - a := by rw [hL, List.length_drop]; omega
      have hLg : ∀ (n : Nat) (h : n < L.length), byteAt s (a + n) = (L[n]).toNat := fun n h => by
        rw [byte_at (show a + n < s.data.toList.length by omega)]
        simp only [hL, List.getElem_drop]
      have hsl := stopN_le innI L
      refine W_loop (fun m fr h' => ∃ n : Nat, n ≤ stopN innI L ∧ m = L.length - n ∧ fr = [(0, .str s), (1, .int .i64 a), (8, .int .i64 (a + n : Nat))]) L.length ⟨0, by omega, by omega, rfl⟩ ?_
      rintro m fr h' ⟨n, hn, rfl, rfl⟩
      simp only [J_ref04_name_j2, wk,if_true,if_false,forall_const,implies_true,ne_eq,eq_self,Nat.reduceEqDiff,Nat.reduceAdd,Nat.reduceMul,Nat.reduceSub,Nat.reduceLeDiff,Nat.reduceLT,Int.reduceEq,Int.reduceLT,Int.reduceLE,Int.reduceAdd,Int.reduceSub,Int.reduceMul,Int.reduceNeg,Int.reduceNe,reduceCtorEq,Int.reduceToNat,↓reduceIte]
      have hj : stopN innI L = n → ∀ x, W Try.prog J_ref04_name_j1 [(0, .str s), (1, .int .i64 a), (8, .int .i64 (a + n : Nat)), (29, x)] h' (kret [.t 4, .t 5] (fun v _ => v = rnameV s a)) := by
        intro hst x
        simp only [J_ref04_name_j1, wk,if_true,if_false,forall_const,implies_true,ne_eq,eq_self,Nat.reduceEqDiff,Nat.reduceAdd,Nat.reduceMul,Nat.reduceSub,Nat.reduceLeDiff,Nat.reduceLT,Int.reduceEq,Int.reduceLT,Int.reduceLE,Int.reduceAdd,Int.reduceSub,Int.reduceMul,Int.reduceNeg,Int.reduceNe,reduceCtorEq,Int.reduceToNat,↓reduceIte]
        have hnm : nameL (s.data.toList.drop a) = if n ≤ 24 ∧ fineL (L.drop n) = true then some n else none := by
          rw [← hL]
          have hLc : L = b :: r := by rw [hL, hd]
          have : nameL L = if lttI b.toNat = true ∧ stopN innI L ≤ 24 ∧ fineL (L.drop (stopN innI L)) = true then some (stopN innI L) else none := by rw [hLc]; rfl
          rw [this, hst]
          simp only [hb1, true_and]
        have hdn : L.drop n = s.data.toList.drop (a + n) := by rw [hL, List.drop_drop]
        unfold rnameV
        rw [hnm]
        refine ⟨inR_of (by omega) (by omega), fun h24 => ?_, fun h24 => ?_⟩
        · have hbn := atB_stop lo_inn ha hb n (by rw [← hL]; omega)
          have hn24 : n ≤ 24 := by omega
          refine PCalls.use (p_fine s (a + n) hs (by omega) hbn) ?_; simp only [wk,if_true,if_false,forall_const,implies_true,ne_eq,eq_self,Nat.reduceEqDiff,Nat.reduceAdd,Nat.reduceMul,Nat.reduceSub,Nat.reduceLeDiff,Nat.reduceLT,Int.reduceEq,Int.reduceLT,Int.reduceLE,Int.reduceAdd,Int.reduceSub,Int.reduceMul,Int.reduceNeg,Int.reduceNe,reduceCtorEq,Int.reduceToNat,↓reduceIte]
          rw [← hdn]
          refine ⟨fun hf => ?_, fun hf => ?_⟩
          · simp only [hn24, hf, Bool.false_eq_true, and_false, if_false]
          · simp only [hn24, hf, and_self, if_true, Int.toNat_natCast]
            exact ⟨⟨by omega, by omega, by omega⟩, trivial⟩
        · rw [if_neg (by omega)]
      refine ⟨fun hlt => ⟨⟨by omega, by omega⟩, ?_⟩, fun hge => hj (by omega) _⟩
      have hnl : n < L.length := by omega
      rw [Int.toNat_natCast, hLg n hnl, conv_u8]
      refine PCalls.use (p_rinName (L[n]).toNat) ?_; simp only [wk,if_true,if_false,forall_const,implies_true,ne_eq,eq_self,Nat.reduceEqDiff,Nat.reduceAdd,Nat.reduceMul,Nat.reduceSub,Nat.reduceLeDiff,Nat.reduceLT,Int.reduceEq,Int.reduceLT,Int.reduceLE,Int.reduceAdd,Int.reduceSub,Int.reduceMul,Int.reduceNeg,Int.reduceNe,reduceCtorEq,Int.reduceToNat,↓reduceIte]
      refine ⟨fun hin => ⟨inR_of (by omega) (by omega), L.length - (n + 1), by omega, n + 1, stop_more hnl hn hin, rfl, by simp; omega⟩, fun hin => hj (stop_done hnl hn hin) _⟩
    · simp only [show lttI b.toNat = false by simpa using hb1, wk,if_true,if_false,forall_const,implies_true,ne_eq,eq_self,Nat.reduceEqDiff,Nat.reduceAdd,Nat.reduceMul,Nat.reduceSub,Nat.reduceLeDiff,Nat.reduceLT,Int.reduceEq,Int.reduceLT,Int.reduceLE,Int.reduceAdd,Int.reduceSub,Int.reduceMul,Int.reduceNeg,Int.reduceNe,reduceCtorEq,Int.reduceToNat,↓reduceIte]
      unfold rnameV
      rw [hd]
      simp [nameL, hb1]
/-- may digits be a number? -/
def numW (s : ByteArray) : Bool := decide (1 ≤ s.size) && (decide (s.size ≤ 9) && (s.data.toList.all (fun b => digI b.toNat) && (decide (byteAt s 0 ≠ 48) || decide (s.size = 1))))
theorem p_rnumber (s : ByteArray) (hs : s.size ≤ 1000000) : PCalls Try.prog 52 [.str s] (.bool (numW s)) := by
  have hl := len_size s
  refine pcalls_of (by first | rfl | simp [free, free.frees, frees_str, frees_u8, frees_u16]) (by first | rfl | simp [free, free.frees, frees_str, frees_u8, frees_u16]) (acalls_of mixed J_ref04_number_ok (Nat.le_of_ble_eq_true rfl) ?_); simp only [J_ref04_number, wk,if_true,if_false,forall_const,implies_true,ne_eq,eq_self,Nat.reduceEqDiff,Nat.reduceAdd,Nat.reduceMul,Nat.reduceSub,Nat.reduceLeDiff,Nat.reduceLT,Int.reduceEq,Int.reduceLT,Int.reduceLE,Int.reduceAdd,Int.reduceSub,Int.reduceMul,Int.reduceNeg,Int.reduceNe,reduceCtorEq,Int.reduceToNat,↓reduceIte]
  refine W_loop (fun m fr h' => ∃ n : Nat, n ≤ s.data.toList.length ∧ m = s.data.toList.length - n ∧ fr = [(0, .str s), (3, .int .i64 n)] ∧ ∀ b ∈ s.data.toList.take n, digI b.toNat = true) s.data.toList.length ⟨0, by omega, by omega, rfl, by simp⟩ ?_
  rintro m fr h' ⟨n, hn, rfl, rfl, hall⟩
  simp only [J_ref04_number_j2, wk,if_true,if_false,forall_const,implies_true,ne_eq,eq_self,Nat.reduceEqDiff,Nat.reduceAdd,Nat.reduceMul,Nat.reduceSub,Nat.reduceLeDiff,Nat.reduceLT,Int.reduceEq,Int.reduceLT,Int.reduceLE,Int.reduceAdd,Int.reduceSub,Int.reduceMul,Int.reduceNeg,Int.reduceNe,reduceCtorEq,Int.reduceToNat,↓reduceIte]
  refine ⟨fun hlt => ⟨⟨by omega, by omega⟩, ?_⟩, fun hge => ?_⟩
  · have hnl : n < s.data.toList.length := by omega
    rw [Int.toNat_natCast, byte_at hnl, conv_u8]
    refine PCalls.use (p_rdigit (s.data.toList[n]).toNat) ?_; simp only [wk,if_true,if_false,forall_const,implies_true,ne_eq,eq_self,Nat.reduceEqDiff,Nat.reduceAdd,Nat.reduceMul,Nat.reduceSub,Nat.reduceLeDiff,Nat.reduceLT,Int.reduceEq,Int.reduceLT,Int.reduceLE,Int.reduceAdd,Int.reduceSub,Int.reduceMul,Int.reduceNeg,Int.reduceNe,reduceCtorEq,Int.reduceToNat,↓reduceIte]
    refine ⟨fun e => ?_, fun e => ⟨inR_of (by omega) (by omega), s.data.toList.length - (n + 1), by omega, n + 1, by omega, rfl, by simp, fun b hb => ?_⟩⟩
    · have : s.data.toList.all (fun b => digI b.toNat) = false := by
        rw [List.all_eq_false]; exact ⟨_, List.getElem_mem hnl, fun h => by rw [e] at h; cases h⟩
      congr 1
      simp [numW, this]
    · rw [List.take_succ_eq_append_getElem hnl] at hb
      rcases List.mem_append.1 hb with hb | hb
      · exact hall b hb
      · simp at hb; subst hb; exact e
  · rw [List.take_of_length_le (by omega)] at hall
    have ha : s.data.toList.all (fun b => digI b.toNat) = true := List.all_eq_true.2 hall
    simp only [J_ref04_number_j1, wk,if_true,if_false,forall_const,implies_true,ne_eq,eq_self,Nat.reduceEqDiff,Nat.reduceAdd,Nat.reduceMul,Nat.reduceSub,Nat.reduceLeDiff,Nat.reduceLT,Int.reduceEq,Int.reduceLT,Int.reduceLE,Int.reduceAdd,Int.reduceSub,Int.reduceMul,Int.reduceNeg,Int.reduceNe,reduceCtorEq,Int.reduceToNat,↓reduceIte]
    unfold numW
    rw [ha]
    repeat' (first | (refine And.intro ?_ ?_) | intro _)
    all_goals first
      | omega
      | (congr 1; simp_all; done)
      | (congr 1; simp_all; omega)
      | (congr 1; rw [Bool.eq_iff_iff]; simp_all; done)
      | (congr 1; rw [Bool.eq_iff_iff]; simp_all; omega)
def begW (s : ByteArray) (a : Nat) (p : ByteArray) : Bool := decide (a + p.size ≤ s.size) && decide (s.extract a (a + p.size) = p)
theorem p_begins (s p : ByteArray) (a : Nat) (hs : s.size ≤ 1000000) (hp : p.size ≤ 1000000) (ha : a ≤ s.size) : PCalls Try.prog 69 [.str s, .int .i64 a, .str p] (.bool (begW s a p)) := by
  refine pcalls_of (by first | rfl | simp [free, free.frees, frees_str, frees_u8, frees_u16]) (by first | rfl | simp [free, free.frees, frees_str, frees_u8, frees_u16]) (acalls_of mixed J_ref04_begins_ok (Nat.le_of_ble_eq_true rfl) ?_); simp only [J_ref04_begins, wk,if_true,if_false,forall_const,implies_true,ne_eq,eq_self,Nat.reduceEqDiff,Nat.reduceAdd,Nat.reduceMul,Nat.reduceSub,Nat.reduceLeDiff,Nat.reduceLT,Int.reduceEq,Int.reduceLT,Int.reduceLE,Int.reduceAdd,Int.reduceSub,Int.reduceMul,Int.reduceNeg,Int.reduceNe,reduceCtorEq,Int.reduceToNat,↓reduceIte]
  have e1 : ((a : Int) + (p.size : Int)).toNat = a + p.size := by omega
  rw [Int.toNat_natCast, e1]
  refine ⟨inR_of (by omega) (by omega), fun h => ⟨inR_of (by omega) (by omega), ⟨by omega, by omega, by omega⟩, ?_⟩, fun h => ?_⟩
  · congr 1
    have : a + p.size ≤ s.size := by omega
    simp [begW, this]
  · congr 1
    have : ¬ a + p.size ≤ s.size := by omega
    simp [begW, this]
/-- the signs that are tokens of their own -/
def sigB (n : Nat) : Bool := n == 61 || n == 44 || n == 59 || n == 60 || n == 62 || n == 33 || n == 63 || n == 42
def sigW (s : ByteArray) : Bool := decide (s.size = 1) && sigB (byteAt s 0)
theorem one_byte {s : ByteArray} (h : s.size = 1) : ∃ b : UInt8, s = ⟨#[b]⟩ := by
  obtain ⟨⟨l⟩⟩ := s
  match l, h with
  | [b], _ => exact ⟨b, rfl⟩
theorem ba_one (b c : UInt8) : ((⟨#[b]⟩ : ByteArray) = ⟨#[c]⟩) ↔ b.toNat = c.toNat := by
  rw [UInt8.toNat_inj]
  constructor
  · intro h; simpa using h
  · rintro rfl; rfl
theorem sigW_iff (s : ByteArray) : sigW s = true ↔ (s = ⟨#[61]⟩ ∨ s = ⟨#[44]⟩ ∨ s = ⟨#[59]⟩ ∨ s = ⟨#[60]⟩ ∨ s = ⟨#[62]⟩ ∨ s = ⟨#[33]⟩ ∨ s = ⟨#[63]⟩ ∨ s = ⟨#[42]⟩) := by
  by_cases h : s.size = 1
  · obtain ⟨b, rfl⟩ := one_byte h
    have e : sigW ⟨#[b]⟩ = sigB b.toNat := by
      unfold sigW
      rw [h]
      rfl
    rw [e]
    simp only [ba_one]
    simp [sigB, or_assoc]
  · constructor
    · intro h1
      simp only [sigW, Bool.and_eq_true, decide_eq_true_eq] at h1
      exact absurd h1.1 h
    · intro h1
      rcases h1 with rfl | rfl | rfl | rfl | rfl | rfl | rfl | rfl <;> exact absurd rfl h
theorem p_isSign (s : ByteArray) : PCalls Try.prog 53 [.str s] (.bool (sigW s)) := by
  refine pcalls_of (by first | rfl | simp [free, free.frees, frees_str, frees_u8, frees_u16]) (by first | rfl | simp [free, free.frees, frees_str, frees_u8, frees_u16]) (acalls_of mixed J_ref04_isSign_ok (Nat.le_of_ble_eq_true rfl) ?_); simp only [J_ref04_isSign, wk,if_true,if_false,forall_const,implies_true,ne_eq,eq_self,Nat.reduceEqDiff,Nat.reduceAdd,Nat.reduceMul,Nat.reduceSub,Nat.reduceLeDiff,Nat.reduceLT,Int.reduceEq,Int.reduceLT,Int.reduceLE,Int.reduceAdd,Int.reduceSub,Int.reduceMul,Int.reduceNeg,Int.reduceNe,reduceCtorEq,Int.reduceToNat,↓reduceIte]
  have no : sigW s = true → AV.bool true = .bool (sigW s) := fun h => by rw [h]
  have hi := sigW_iff s
  repeat' (first | (refine And.intro ?_ ?_) | intro _)
  all_goals first
    | (apply no; rw [hi]; simp_all; done)
    | (congr 1; rw [Bool.eq_iff_iff, hi]; simp_all)
end Go.Proofs.Ytmbijfcjfhdnjaa

/- The token at a place: the plain function; the reference's sign. -/
namespace Go.Proofs.Ytmbijfcjfhdnjaa
set_option linter.unusedSimpArgs false
set_option linter.unusedVariables false
open Go.RowKit Go.Lib

def ba (l : List UInt8) : ByteArray := ⟨l.toArray⟩
theorem ba_list (l : List UInt8) : (ba l).data.toList = l := by simp [ba]
theorem ba_len2 (l : List UInt8) : (ba l).size = l.length := by show l.toArray.size = _; simp
theorem ba_eta (s : ByteArray) : ba s.data.toList = s := by apply ByteArray.ext; apply Array.ext'; simp [ba]
theorem ba_inj {a b : List UInt8} : ba a = ba b ↔ a = b := ⟨fun h => by rw [← ba_list a, h, ba_list], fun h => by rw [h]⟩
theorem ext_ba (s : ByteArray) (a n : Nat) : s.extract a (a + n) = ba ((s.data.toList.drop a).take n) := by
  apply ByteArray.ext; apply Array.ext'
  simp [ba, List.extract_eq_take_drop]
/-- does a text stand at the beginning? -/
def begL (p : ByteArray) (l : List UInt8) : Bool := decide (l.take p.size = p.data.toList)
theorem begW_eq (s p : ByteArray) (a : Nat) (ha : a ≤ s.size) : begW s a p = begL p (s.data.toList.drop a) := by
  have hl := len_size s
  have hp := len_size p
  unfold begW begL
  rw [ext_ba]
  by_cases h : a + p.size ≤ s.size
  · simp only [h, decide_true, Bool.true_and]
    congr 1
    rw [← ba_eta p, ba_inj]
    simp [ba_eta]
  · simp only [h, decide_false, Bool.false_and]
    symm
    rw [decide_eq_false_iff_not]
    intro h2
    have := congrArg List.length h2
    rw [List.length_take, List.length_drop] at this
    omega
abbrev Sig := Int × ByteArray × Int × Nat
def atomL (k : Int) (skip : Nat) (l : List UInt8) : Option Sig := match nameL l with
  | none => none
  | some n => some (1, ba (l.take n), k, skip + n)
/-- what stands at the beginning of bytes, without a kind ahead -/
def plainL : List UInt8 → Option Sig
  | [] => none
  | b :: r =>
    if lttI b.toNat = true then (match nameL (b :: r) with
      | none => none
      | some n => if keyW (ba ((b :: r).take n)) = 0 then some (1, ba ((b :: r).take n), 3, n) else some (keyW (ba ((b :: r).take n)), ba [], 0, n))
    else if b.toNat = 68 then (if fineL r = true then some (1, ba [68], 0, 1) else none)
    else if b.toNat = 124 then some (4, ba [], 0, 1)
    else if b.toNat = 40 then some (6, ba [], 0, 1)
    else if b.toNat = 41 then some (7, ba [], 0, 1)
    else if digI b.toNat = true then (if numW (ba ((b :: r).take (stopN digI (b :: r)))) = true ∧ fineL ((b :: r).drop (stopN digI (b :: r))) = true then some (8, ba ((b :: r).take (stopN digI (b :: r))), 0, stopN digI (b :: r)) else none)
    else if sigB b.toNat = true then some (9, ba [b], 0, 1)
    else none
/-- which kind of atoms is said ahead; 0: none -/
def kindL (l : List UInt8) : Int := if begL (preW 1) l = true then 1 else if begL (preW 2) l = true then 2 else if begL (preW 4) l = true then 4 else if begL (preW 5) l = true then 5 else 0
/-- THE TOKEN at the beginning of bytes: its kind, name, kind of atom, length -/
def signL (l : List UInt8) : Option Sig := if kindL l = 0 then plainL l else atomL (kindL l) (preW (kindL l)).size (l.drop (preW (kindL l)).size)
/-- as the reference tells it -/
def signRV (s : ByteArray) (a : Nat) : AV := match signL (s.data.toList.drop a) with
  | some (k, w, o, n) => .tup [.agg [.int .i64 k, .str w, .int .i64 o, .int .i64 a], .int .i64 (a + n : Nat)]
  | none => .tup [.agg [.int .i64 (if kindL (s.data.toList.drop a) = 0 then 0 else 1), .str ⟨#[]⟩, .int .i64 (kindL (s.data.toList.drop a)), .int .i64 a], .int .i64 (-1)]
theorem free_signRV (s : ByteArray) (a : Nat) : free (signRV s a) = true := by unfold signRV; split <;> rfl
/-- behind a text that ends in ASCII a rune may begin -/
theorem atB_beg {s p : ByteArray} {a : Nat} (ha : a ≤ s.size) (h : begL p (s.data.toList.drop a) = true) (hp : 0 < p.size) (hc : ∀ b ∈ p.data.toList, b.toNat < 128) : a + p.size ≤ s.size ∧ atB s (a + p.size) := by
  have hl := len_size s
  have hpl := len_size p
  unfold begL at h
  have h2 := of_decide_eq_true h
  have h3 := congrArg List.length h2
  rw [List.length_take, List.length_drop] at h3
  refine ⟨by omega, .inr ⟨by omega, ?_⟩⟩
  have h4 : s.data.toList[a + p.size - 1]'(by omega) ∈ p.data.toList := by
    rw [← h2, List.mem_iff_getElem]
    refine ⟨p.size - 1, by rw [List.length_take, List.length_drop]; omega, ?_⟩
    rw [List.getElem_take, List.getElem_drop]
    congr 1; omega
  exact hc _ h4
def kinds : List Int := [1, 2, 4, 5]
theorem kind_at {l : List UInt8} {i : Nat} (hi : i < kinds.length) (hall : ∀ (j : Nat) (hj : j < kinds.length), j < i → begL (preW (kinds[j])) l = false) (h : begL (preW (kinds[i])) l = true) : kindL l = kinds[i] := by
  unfold kinds at hi hall h ⊢
  unfold kindL
  rcases (show i = 0 ∨ i = 1 ∨ i = 2 ∨ i = 3 by simp at hi; omega) with rfl | rfl | rfl | rfl
  · rw [if_pos (show begL (preW 1) l = true from h)]; rfl
  · rw [if_neg (by rw [show begL (preW 1) l = false from hall 0 (by simp) (by omega)]; simp), if_pos (show begL (preW 2) l = true from h)]; rfl
  · rw [if_neg (by rw [show begL (preW 1) l = false from hall 0 (by simp) (by omega)]; simp), if_neg (by rw [show begL (preW 2) l = false from hall 1 (by simp) (by omega)]; simp), if_pos (show begL (preW 4) l = true from h)]; rfl
  · rw [if_neg (by rw [show begL (preW 1) l = false from hall 0 (by simp) (by omega)]; simp), if_neg (by rw [show begL (preW 2) l = false from hall 1 (by simp) (by omega)]; simp), if_neg (by rw [show begL (preW 4) l = false from hall 2 (by simp) (by omega)]; simp), if_pos (show begL (preW 5) l = true from h)]; rfl
theorem kind_no {l : List UInt8} (hall : ∀ (j : Nat) (hj : j < kinds.length), begL (preW (kinds[j])) l = false) : kindL l = 0 := by
  unfold kindL
  rw [if_neg (by rw [show begL (preW 1) l = false from hall 0 (by simp [kinds])]; simp), if_neg (by rw [show begL (preW 2) l = false from hall 1 (by simp [kinds])]; simp), if_neg (by rw [show begL (preW 4) l = false from hall 2 (by simp [kinds])]; simp), if_neg (by rw [show begL (preW 5) l = false from hall 3 (by simp [kinds])]; simp)]
theorem pre_ok {k : Int} (h : k ∈ kinds) : 0 < (preW k).size ∧ (preW k).size ≤ 6 ∧ ∀ b ∈ (preW k).data.toList, b.toNat < 128 := by
  unfold kinds at h
  simp only [List.mem_cons, List.not_mem_nil, or_false] at h
  rcases h with rfl | rfl | rfl | rfl <;> exact ⟨by decide, by decide, by decide⟩
theorem kinds_nz {k : Int} (h : k ∈ kinds) : k ≠ 0 := by
  unfold kinds at h
  simp only [List.mem_cons, List.not_mem_nil, or_false] at h
  omega
set_option maxRecDepth 100000 in
set_option maxHeartbeats 4000000 in
theorem p_rsign (s : ByteArray) (a : Nat) (hs : s.size ≤ 1000000) (ha : a < s.size) (hb : atB s a) :
    PCalls Try.prog 48 [.str s, .int .i64 a] (signRV s a) := by
  have hl := len_size s
  refine pcalls_of rfl (free_signRV s a) (acalls_of mixed J_ref04_sign_ok (Nat.le_of_ble_eq_true rfl) ?_); simp only [J_ref04_sign, wk,if_true,if_false,forall_const,implies_true,ne_eq,eq_self,Nat.reduceEqDiff,Nat.reduceAdd,Nat.reduceMul,Nat.reduceSub,Nat.reduceLeDiff,Nat.reduceLT,Int.reduceEq,Int.reduceLT,Int.reduceLE,Int.reduceAdd,Int.reduceSub,Int.reduceMul,Int.reduceNeg,Int.reduceNe,reduceCtorEq,Int.reduceToNat,↓reduceIte]
  refine W_loop (fun m fr h' => ∃ i : Nat, i ≤ 4 ∧ m = 4 - i ∧ h' = [some (false, [.int .i64 0, .str ⟨#[]⟩, .int .i64 0, .int .i64 0]), some (false, [.int .i64 0, .str ⟨#[]⟩, .int .i64 0, .int .i64 a])] ∧ fr = [(0, .str s), (1, .int .i64 a), (4, .ptr 0 0), (6, .ptr 1 0), (7, .lst (.own 3) 4 [.int .i64 1, .int .i64 2, .int .i64 4, .int .i64 5]), (8, .int .i64 i)] ∧ ∀ (j : Nat) (hj : j < kinds.length), j < i → begL (preW (kinds[j])) (s.data.toList.drop a) = false) 4 ⟨0, by omega, by omega, rfl, rfl, fun j _ h => by omega⟩ ?_
  rintro m fr h' ⟨i, hi, rfl, rfl, rfl, hall⟩
  simp only [J_ref04_sign_j8, wk,if_true,if_false,forall_const,implies_true,ne_eq,eq_self,Nat.reduceEqDiff,Nat.reduceAdd,Nat.reduceMul,Nat.reduceSub,Nat.reduceLeDiff,Nat.reduceLT,Int.reduceEq,Int.reduceLT,Int.reduceLE,Int.reduceAdd,Int.reduceSub,Int.reduceMul,Int.reduceNeg,Int.reduceNe,reduceCtorEq,Int.reduceToNat,↓reduceIte]
  have hkl : kinds.length = 4 := rfl
  refine ⟨fun hlt => ⟨⟨by omega, by omega⟩, ?_⟩, fun hge => ?_⟩
  · have hi4 : i < kinds.length := by omega
    have hd : List.drop (i : Int).toNat [AV.int .i64 1, .int .i64 2, .int .i64 4, .int .i64 5] = .int .i64 kinds[i] :: (kinds.drop (i + 1)).map (AV.int .i64) := by
      rw [Int.toNat_natCast, show [AV.int .i64 1, .int .i64 2, .int .i64 4, .int .i64 5] = kinds.map (AV.int .i64) from rfl, ← List.map_drop, List.drop_eq_getElem_cons hi4]
      rfl
    obtain ⟨g1, g2, g3⟩ := pre_ok (List.getElem_mem hi4)
    simp only [hd, wk,if_true,if_false,forall_const,implies_true,ne_eq,eq_self,Nat.reduceEqDiff,Nat.reduceAdd,Nat.reduceMul,Nat.reduceSub,Nat.reduceLeDiff,Nat.reduceLT,Int.reduceEq,Int.reduceLT,Int.reduceLE,Int.reduceAdd,Int.reduceSub,Int.reduceMul,Int.reduceNeg,Int.reduceNe,reduceCtorEq,Int.reduceToNat,↓reduceIte]
    refine PCalls.use (p_prefix kinds[i]) ?_; simp only [wk,if_true,if_false,forall_const,implies_true,ne_eq,eq_self,Nat.reduceEqDiff,Nat.reduceAdd,Nat.reduceMul,Nat.reduceSub,Nat.reduceLeDiff,Nat.reduceLT,Int.reduceEq,Int.reduceLT,Int.reduceLE,Int.reduceAdd,Int.reduceSub,Int.reduceMul,Int.reduceNeg,Int.reduceNe,reduceCtorEq,Int.reduceToNat,↓reduceIte]
    have hbg := p_begins s (preW kinds[i]) a hs (by omega) (by omega)
    rw [begW_eq s _ a (by omega)] at hbg
    refine PCalls.use (hbg) ?_; simp only [wk,if_true,if_false,forall_const,implies_true,ne_eq,eq_self,Nat.reduceEqDiff,Nat.reduceAdd,Nat.reduceMul,Nat.reduceSub,Nat.reduceLeDiff,Nat.reduceLT,Int.reduceEq,Int.reduceLT,Int.reduceLE,Int.reduceAdd,Int.reduceSub,Int.reduceMul,Int.reduceNeg,Int.reduceNe,reduceCtorEq,Int.reduceToNat,↓reduceIte]
    refine ⟨fun e => ?_, fun e => ?_⟩
    · obtain ⟨b1, b2⟩ := atB_beg (by omega) e g1 g3
      have hkk := kind_at hi4 hall e
      have hnz := kinds_nz (List.getElem_mem hi4)
      have qn := p_rname s (a + (preW kinds[i]).size) hs b1 b2
      have hsg : signL (s.data.toList.drop a) = atomL kinds[i] (preW kinds[i]).size (s.data.toList.drop (a + (preW kinds[i]).size)) := by
        unfold signL
        rw [hkk, if_neg hnz, List.drop_drop]
      rw [show (a : Int) + (preW kinds[i]).size = ((a + (preW kinds[i]).size : Nat) : Int) by omega]
      refine ⟨inR_of (by omega) (by omega), ?_⟩
      unfold rnameV at qn
      unfold signRV
      rw [hsg]
      unfold atomL
      cases hn : nameL (s.data.toList.drop (a + (preW kinds[i]).size)) with
      | none =>
        rw [hn] at qn
        refine PCalls.use (qn) ?_; simp only [wk,if_true,if_false,forall_const,implies_true,ne_eq,eq_self,Nat.reduceEqDiff,Nat.reduceAdd,Nat.reduceMul,Nat.reduceSub,Nat.reduceLeDiff,Nat.reduceLT,Int.reduceEq,Int.reduceLT,Int.reduceLE,Int.reduceAdd,Int.reduceSub,Int.reduceMul,Int.reduceNeg,Int.reduceNe,reduceCtorEq,Int.reduceToNat,↓reduceIte]
        refine ⟨⟨by omega, by omega⟩, ?_⟩
        simp only [hd, hkk, hnz, valL, if_false, wk,if_true,if_false,forall_const,implies_true,ne_eq,eq_self,Nat.reduceEqDiff,Nat.reduceAdd,Nat.reduceMul,Nat.reduceSub,Nat.reduceLeDiff,Nat.reduceLT,Int.reduceEq,Int.reduceLT,Int.reduceLE,Int.reduceAdd,Int.reduceSub,Int.reduceMul,Int.reduceNeg,Int.reduceNe,reduceCtorEq,Int.reduceToNat,↓reduceIte]
      | some n =>
        rw [hn] at qn
        refine PCalls.use (qn) ?_; simp only [wk,if_true,if_false,forall_const,implies_true,ne_eq,eq_self,Nat.reduceEqDiff,Nat.reduceAdd,Nat.reduceMul,Nat.reduceSub,Nat.reduceLeDiff,Nat.reduceLT,Int.reduceEq,Int.reduceLT,Int.reduceLE,Int.reduceAdd,Int.reduceSub,Int.reduceMul,Int.reduceNeg,Int.reduceNe,reduceCtorEq,Int.reduceToNat,↓reduceIte]
        refine ⟨⟨by omega, by omega⟩, ?_⟩
        simp only [hd, hkk, hnz, valL, if_false, ext_ba, wk,if_true,if_false,forall_const,implies_true,ne_eq,eq_self,Nat.reduceEqDiff,Nat.reduceAdd,Nat.reduceMul,Nat.reduceSub,Nat.reduceLeDiff,Nat.reduceLT,Int.reduceEq,Int.reduceLT,Int.reduceLE,Int.reduceAdd,Int.reduceSub,Int.reduceMul,Int.reduceNeg,Int.reduceNe,reduceCtorEq,Int.reduceToNat,↓reduceIte]
        rw [Nat.add_assoc]
    · refine ⟨inR_of (by omega) (by omega), 4 - (i + 1), by omega, i + 1, by omega, rfl, by simp, fun j hj hji => ?_⟩
      rcases Nat.lt_or_ge j i with h1 | h1
      · exact hall j hj h1
      · have h2 : j = i := by omega
        subst h2; exact e
  · have hk0 : kindL (s.data.toList.drop a) = 0 := kind_no (fun j hj => hall j hj (by omega))
    have hsg : signL (s.data.toList.drop a) = plainL (s.data.toList.drop a) := by unfold signL; rw [if_pos hk0]
    have hal : a < s.data.toList.length := by omega
    have hd : s.data.toList.drop a = s.data.toList[a] :: s.data.toList.drop (a + 1) := List.drop_eq_getElem_cons hal
    obtain ⟨b, hb1⟩ : ∃ b, b = s.data.toList[a] := ⟨_, rfl⟩
    rw [← hb1] at hd
    have hr1 : lttI (runeR s a) = lttI b.toNat := by rw [rune_fre hi_ltt hal, hb1]
    have hr2 : digI (runeR s a) = digI b.toNat := by rw [rune_fre hi_dig hal, hb1]
    have hr3 : ∀ k : Int, k < 128 → (runeR s a = k ↔ (b.toNat : Int) = k) := fun k hk => by
      have hq : ∀ r : Int, 128 ≤ r → decide (r = k) = decide ((128 : Int) = k) := fun r hr => by
        rw [decide_eq_decide]; omega
      have := rune_fre (q := fun r => decide (r = k)) hq hal
      rw [← hb1] at this
      simpa using this
    have hn1 : b.toNat < 128 → runeN s a = a + 1 := fun h => by
      unfold runeN
      rw [if_pos ha, dec_lt hal (by rw [← hb1]; exact h)]
    unfold signRV
    rw [hsg, hk0, hd]
    have qlet := p_rletter (runeR s a)
    have qdig := p_rdigit (runeR s a)
    rw [hr1] at qlet
    rw [hr2] at qdig
    have n68 := hr3 68 (by omega)
    have n124 := hr3 124 (by omega)
    have n40 := hr3 40 (by omega)
    have n41 := hr3 41 (by omega)
    simp only [J_ref04_sign_j7, wk,if_true,if_false,forall_const,implies_true,ne_eq,eq_self,Nat.reduceEqDiff,Nat.reduceAdd,Nat.reduceMul,Nat.reduceSub,Nat.reduceLeDiff,Nat.reduceLT,Int.reduceEq,Int.reduceLT,Int.reduceLE,Int.reduceAdd,Int.reduceSub,Int.reduceMul,Int.reduceNeg,Int.reduceNe,reduceCtorEq,Int.reduceToNat,↓reduceIte]
    refine PCalls.use (p_rune s a hs (by omega) hb) ?_; simp only [wk,if_true,if_false,forall_const,implies_true,ne_eq,eq_self,Nat.reduceEqDiff,Nat.reduceAdd,Nat.reduceMul,Nat.reduceSub,Nat.reduceLeDiff,Nat.reduceLT,Int.reduceEq,Int.reduceLT,Int.reduceLE,Int.reduceAdd,Int.reduceSub,Int.reduceMul,Int.reduceNeg,Int.reduceNe,reduceCtorEq,Int.reduceToNat,↓reduceIte]
    by_cases hlet : lttI b.toNat = true
    · rw [hlet] at qlet
      refine PCalls.use (qlet) ?_; simp only [wk,if_true,if_false,forall_const,implies_true,ne_eq,eq_self,Nat.reduceEqDiff,Nat.reduceAdd,Nat.reduceMul,Nat.reduceSub,Nat.reduceLeDiff,Nat.reduceLT,Int.reduceEq,Int.reduceLT,Int.reduceLE,Int.reduceAdd,Int.reduceSub,Int.reduceMul,Int.reduceNeg,Int.reduceNe,reduceCtorEq,Int.reduceToNat,↓reduceIte]
      have qn := p_rname s a hs (by omega) hb
      unfold rnameV at qn
      rw [hd] at qn
      simp only [plainL, hlet, if_true]
      cases hn : nameL (b :: s.data.toList.drop (a + 1)) with
      | none =>
        rw [hn] at qn
        refine PCalls.use (qn) ?_; simp only [wk,if_true,if_false,forall_const,implies_true,ne_eq,eq_self,Nat.reduceEqDiff,Nat.reduceAdd,Nat.reduceMul,Nat.reduceSub,Nat.reduceLeDiff,Nat.reduceLT,Int.reduceEq,Int.reduceLT,Int.reduceLE,Int.reduceAdd,Int.reduceSub,Int.reduceMul,Int.reduceNeg,Int.reduceNe,reduceCtorEq,Int.reduceToNat,↓reduceIte]
        simp only [valL, wk,if_true,if_false,forall_const,implies_true,ne_eq,eq_self,Nat.reduceEqDiff,Nat.reduceAdd,Nat.reduceMul,Nat.reduceSub,Nat.reduceLeDiff,Nat.reduceLT,Int.reduceEq,Int.reduceLT,Int.reduceLE,Int.reduceAdd,Int.reduceSub,Int.reduceMul,Int.reduceNeg,Int.reduceNe,reduceCtorEq,Int.reduceToNat,↓reduceIte]
      | some n =>
        rw [hn] at qn
        refine PCalls.use (qn) ?_; simp only [wk,if_true,if_false,forall_const,implies_true,ne_eq,eq_self,Nat.reduceEqDiff,Nat.reduceAdd,Nat.reduceMul,Nat.reduceSub,Nat.reduceLeDiff,Nat.reduceLT,Int.reduceEq,Int.reduceLT,Int.reduceLE,Int.reduceAdd,Int.reduceSub,Int.reduceMul,Int.reduceNeg,Int.reduceNe,reduceCtorEq,Int.reduceToNat,↓reduceIte]
        have hw : s.extract a (a + n) = ba ((b :: s.data.toList.drop (a + 1)).take n) := by rw [ext_ba, hd]
        rw [hw]
        refine ⟨fun h => by omega, fun _ => ?_⟩
        refine PCalls.use (p_rkeyword (ba ((b :: s.data.toList.drop (a + 1)).take n))) ?_; simp only [wk,if_true,if_false,forall_const,implies_true,ne_eq,eq_self,Nat.reduceEqDiff,Nat.reduceAdd,Nat.reduceMul,Nat.reduceSub,Nat.reduceLeDiff,Nat.reduceLT,Int.reduceEq,Int.reduceLT,Int.reduceLE,Int.reduceAdd,Int.reduceSub,Int.reduceMul,Int.reduceNeg,Int.reduceNe,reduceCtorEq,Int.reduceToNat,↓reduceIte]
        refine ⟨fun h0 => ?_, fun h0 => ?_⟩
        · simp only [h0, J_ref04_sign_j6, valL, if_true, if_false, wk,if_true,if_false,forall_const,implies_true,ne_eq,eq_self,Nat.reduceEqDiff,Nat.reduceAdd,Nat.reduceMul,Nat.reduceSub,Nat.reduceLeDiff,Nat.reduceLT,Int.reduceEq,Int.reduceLT,Int.reduceLE,Int.reduceAdd,Int.reduceSub,Int.reduceMul,Int.reduceNeg,Int.reduceNe,reduceCtorEq,Int.reduceToNat,↓reduceIte]
          try rfl
        · simp only [h0, J_ref04_sign_j6, valL, if_true, if_false, wk,if_true,if_false,forall_const,implies_true,ne_eq,eq_self,Nat.reduceEqDiff,Nat.reduceAdd,Nat.reduceMul,Nat.reduceSub,Nat.reduceLeDiff,Nat.reduceLT,Int.reduceEq,Int.reduceLT,Int.reduceLE,Int.reduceAdd,Int.reduceSub,Int.reduceMul,Int.reduceNeg,Int.reduceNe,reduceCtorEq,Int.reduceToNat,↓reduceIte]
          try rfl
    · rw [show lttI b.toNat = false by simpa using hlet] at qlet
      refine PCalls.use (qlet) ?_; simp only [wk,if_true,if_false,forall_const,implies_true,ne_eq,eq_self,Nat.reduceEqDiff,Nat.reduceAdd,Nat.reduceMul,Nat.reduceSub,Nat.reduceLeDiff,Nat.reduceLT,Int.reduceEq,Int.reduceLT,Int.reduceLE,Int.reduceAdd,Int.reduceSub,Int.reduceMul,Int.reduceNeg,Int.reduceNe,reduceCtorEq,Int.reduceToNat,↓reduceIte]
      by_cases h68 : b.toNat = 68
      · have e : runeR s a = 68 := n68.2 (by omega)
        simp only [e, plainL, show ((68 : Nat) : Int) = 68 from rfl, h68, show lttI 68 = false from rfl, Bool.false_eq_true, if_true, if_false, wk,if_true,if_false,forall_const,implies_true,ne_eq,eq_self,Nat.reduceEqDiff,Nat.reduceAdd,Nat.reduceMul,Nat.reduceSub,Nat.reduceLeDiff,Nat.reduceLT,Int.reduceEq,Int.reduceLT,Int.reduceLE,Int.reduceAdd,Int.reduceSub,Int.reduceMul,Int.reduceNeg,Int.reduceNe,reduceCtorEq,Int.reduceToNat,↓reduceIte]
        rw [hn1 (by omega)]
        refine PCalls.use (p_fine s (a + 1) hs (by omega) (.inr ⟨by omega, by simp only [Nat.add_sub_cancel, ← hb1]; omega⟩)) ?_; simp only [wk,if_true,if_false,forall_const,implies_true,ne_eq,eq_self,Nat.reduceEqDiff,Nat.reduceAdd,Nat.reduceMul,Nat.reduceSub,Nat.reduceLeDiff,Nat.reduceLT,Int.reduceEq,Int.reduceLT,Int.reduceLE,Int.reduceAdd,Int.reduceSub,Int.reduceMul,Int.reduceNeg,Int.reduceNe,reduceCtorEq,Int.reduceToNat,↓reduceIte]
        refine ⟨fun h0 => ?_, fun h0 => ?_⟩
        · simp only [h0, valL, Bool.false_eq_true, if_true, if_false, wk,if_true,if_false,forall_const,implies_true,ne_eq,eq_self,Nat.reduceEqDiff,Nat.reduceAdd,Nat.reduceMul,Nat.reduceSub,Nat.reduceLeDiff,Nat.reduceLT,Int.reduceEq,Int.reduceLT,Int.reduceLE,Int.reduceAdd,Int.reduceSub,Int.reduceMul,Int.reduceNeg,Int.reduceNe,reduceCtorEq,Int.reduceToNat,↓reduceIte]
          try rfl
        · simp only [h0, valL, if_true, if_false, wk,if_true,if_false,forall_const,implies_true,ne_eq,eq_self,Nat.reduceEqDiff,Nat.reduceAdd,Nat.reduceMul,Nat.reduceSub,Nat.reduceLeDiff,Nat.reduceLT,Int.reduceEq,Int.reduceLT,Int.reduceLE,Int.reduceAdd,Int.reduceSub,Int.reduceMul,Int.reduceNeg,Int.reduceNe,reduceCtorEq,Int.reduceToNat,↓reduceIte]
          try rfl
      · by_cases h124 : b.toNat = 124
        · have e : runeR s a = 124 := n124.2 (by omega)
          simp only [e, plainL, show ((124 : Nat) : Int) = 124 from rfl, h124, show lttI 124 = false from rfl, Bool.false_eq_true, if_true, if_false, J_ref04_sign_j5, J_ref04_sign_j4, valL, wk,if_true,if_false,forall_const,implies_true,ne_eq,eq_self,Nat.reduceEqDiff,Nat.reduceAdd,Nat.reduceMul,Nat.reduceSub,Nat.reduceLeDiff,Nat.reduceLT,Int.reduceEq,Int.reduceLT,Int.reduceLE,Int.reduceAdd,Int.reduceSub,Int.reduceMul,Int.reduceNeg,Int.reduceNe,reduceCtorEq,Int.reduceToNat,↓reduceIte]
          rw [hn1 (by omega)]
          rfl
        · by_cases h40 : b.toNat = 40
          · have e : runeR s a = 40 := n40.2 (by omega)
            simp only [e, plainL, show ((40 : Nat) : Int) = 40 from rfl, h40, show lttI 40 = false from rfl, Bool.false_eq_true, if_true, if_false, J_ref04_sign_j5, J_ref04_sign_j4, valL, wk,if_true,if_false,forall_const,implies_true,ne_eq,eq_self,Nat.reduceEqDiff,Nat.reduceAdd,Nat.reduceMul,Nat.reduceSub,Nat.reduceLeDiff,Nat.reduceLT,Int.reduceEq,Int.reduceLT,Int.reduceLE,Int.reduceAdd,Int.reduceSub,Int.reduceMul,Int.reduceNeg,Int.reduceNe,reduceCtorEq,Int.reduceToNat,↓reduceIte]
            rw [hn1 (by omega)]
            rfl
          · by_cases h41 : b.toNat = 41
            · have e : runeR s a = 41 := n41.2 (by omega)
              simp only [e, plainL, show ((41 : Nat) : Int) = 41 from rfl, h41, show lttI 41 = false from rfl, Bool.false_eq_true, if_true, if_false, J_ref04_sign_j5, J_ref04_sign_j4, valL, wk,if_true,if_false,forall_const,implies_true,ne_eq,eq_self,Nat.reduceEqDiff,Nat.reduceAdd,Nat.reduceMul,Nat.reduceSub,Nat.reduceLeDiff,Nat.reduceLT,Int.reduceEq,Int.reduceLT,Int.reduceLE,Int.reduceAdd,Int.reduceSub,Int.reduceMul,Int.reduceNeg,Int.reduceNe,reduceCtorEq,Int.reduceToNat,↓reduceIte]
              rw [hn1 (by omega)]
              rfl
            · have e1 : (runeR s a = 68) = False := by rw [n68]; simp; omega
              have e2 : (runeR s a = 124) = False := by rw [n124]; simp; omega
              have e3 : (runeR s a = 40) = False := by rw [n40]; simp; omega
              have e4 : (runeR s a = 41) = False := by rw [n41]; simp; omega
              simp only [e1, e2, e3, e4, not_false_eq_true, true_implies, false_implies, wk,if_true,if_false,forall_const,implies_true,ne_eq,eq_self,Nat.reduceEqDiff,Nat.reduceAdd,Nat.reduceMul,Nat.reduceSub,Nat.reduceLeDiff,Nat.reduceLT,Int.reduceEq,Int.reduceLT,Int.reduceLE,Int.reduceAdd,Int.reduceSub,Int.reduceMul,Int.reduceNeg,Int.reduceNe,reduceCtorEq,Int.reduceToNat,↓reduceIte]
              refine PCalls.use (qdig) ?_; simp only [wk,if_true,if_false,forall_const,implies_true,ne_eq,eq_self,Nat.reduceEqDiff,Nat.reduceAdd,Nat.reduceMul,Nat.reduceSub,Nat.reduceLeDiff,Nat.reduceLT,Int.reduceEq,Int.reduceLT,Int.reduceLE,Int.reduceAdd,Int.reduceSub,Int.reduceMul,Int.reduceNeg,Int.reduceNe,reduceCtorEq,Int.reduceToNat,↓reduceIte]
              simp only [plainL, show lttI b.toNat = false by simpa using hlet, h68, h124, h40, h41, Bool.false_eq_true, if_false]
              refine ⟨fun hdg => ?_, fun hdg => ?_⟩
              · rw [if_pos hdg]
                obtain ⟨L, hL⟩ : ∃ L, L = b :: s.data.toList.drop (a + 1) := ⟨_, rfl⟩
                rw [← hL] at hd ⊢
                have hLl : L.length = s.size - a := by rw [← hd, List.length_drop]; omega
                have hLg : ∀ (n : Nat) (h : n < L.length), byteAt s (a + n) = (L[n]).toNat := fun n h => by
                  rw [byte_at (show a + n < s.data.toList.length by omega)]
                  simp only [← hd, List.getElem_drop]
                have hsl := stopN_le digI L
                refine W_loop (fun m fr h' => ∃ n : Nat, n ≤ stopN digI L ∧ m = L.length - n ∧ h' = [some (false, [.int .i64 0, .str ⟨#[]⟩, .int .i64 0, .int .i64 0]), some (false, [.int .i64 0, .str ⟨#[]⟩, .int .i64 0, .int .i64 a])] ∧ fr = [(0, .str s), (1, .int .i64 a), (4, .ptr 0 0), (6, .ptr 1 0), (16, .int .i64 (a + n : Nat))]) L.length ⟨0, by omega, by omega, rfl, rfl⟩ ?_
                rintro m fr h' ⟨n, hn, rfl, rfl, rfl⟩
                simp only [J_ref04_sign_j3, wk,if_true,if_false,forall_const,implies_true,ne_eq,eq_self,Nat.reduceEqDiff,Nat.reduceAdd,Nat.reduceMul,Nat.reduceSub,Nat.reduceLeDiff,Nat.reduceLT,Int.reduceEq,Int.reduceLT,Int.reduceLE,Int.reduceAdd,Int.reduceSub,Int.reduceMul,Int.reduceNeg,Int.reduceNe,reduceCtorEq,Int.reduceToNat,↓reduceIte]
                have hj : stopN digI L = n → ∀ x, W Try.prog J_ref04_sign_j2 [(0, .str s), (1, .int .i64 a), (4, .ptr 0 0), (6, .ptr 1 0), (16, .int .i64 (a + n : Nat)), (124, x)] [some (false, [.int .i64 0, .str ⟨#[]⟩, .int .i64 0, .int .i64 0]), some (false, [.int .i64 0, .str ⟨#[]⟩, .int .i64 0, .int .i64 a])] (kseq Try.prog J_ref04_sign_j1 (kret [.c 4 (some 4), .t 5] (fun v _ => v = (match (if numW (ba (L.take (stopN digI L))) = true ∧ fineL (L.drop (stopN digI L)) = true then some (8, ba (L.take (stopN digI L)), 0, stopN digI L) else none : Option Sig) with
                    | some (k, w, o, n) => .tup [.agg [.int .i64 k, .str w, .int .i64 o, .int .i64 a], .int .i64 (a + n : Nat)]
                    | none => .tup [.agg [.int .i64 (if (0 : Int) = 0 then 0 else 1), .str ⟨#[]⟩, .int .i64 0, .int .i64 a], .int .i64 (-1)])))) := by
                  intro hst x
                  simp only [J_ref04_sign_j2, Int.toNat_natCast, ext_ba, hd, hst, wk,if_true,if_false,forall_const,implies_true,ne_eq,eq_self,Nat.reduceEqDiff,Nat.reduceAdd,Nat.reduceMul,Nat.reduceSub,Nat.reduceLeDiff,Nat.reduceLT,Int.reduceEq,Int.reduceLT,Int.reduceLE,Int.reduceAdd,Int.reduceSub,Int.reduceMul,Int.reduceNeg,Int.reduceNe,reduceCtorEq,Int.reduceToNat,↓reduceIte]
                  have qn := p_rnumber (ba (L.take n)) (by rw [ba_len2, List.length_take]; omega)
                  have hbn := atB_stop lo_dig (show a ≤ s.size by omega) hb n (by rw [hd]; omega)
                  have qf := p_fine s (a + n) hs (by omega) hbn
                  rw [← List.drop_drop, hd] at qf
                  refine ⟨⟨by omega, by omega, by omega⟩, ?_⟩
                  refine PCalls.use (qn) ?_; simp only [wk,if_true,if_false,forall_const,implies_true,ne_eq,eq_self,Nat.reduceEqDiff,Nat.reduceAdd,Nat.reduceMul,Nat.reduceSub,Nat.reduceLeDiff,Nat.reduceLT,Int.reduceEq,Int.reduceLT,Int.reduceLE,Int.reduceAdd,Int.reduceSub,Int.reduceMul,Int.reduceNeg,Int.reduceNe,reduceCtorEq,Int.reduceToNat,↓reduceIte]
                  refine ⟨fun h1 => ?_, fun h1 => ?_⟩
                  · refine PCalls.use (qf) ?_; simp only [wk,if_true,if_false,forall_const,implies_true,ne_eq,eq_self,Nat.reduceEqDiff,Nat.reduceAdd,Nat.reduceMul,Nat.reduceSub,Nat.reduceLeDiff,Nat.reduceLT,Int.reduceEq,Int.reduceLT,Int.reduceLE,Int.reduceAdd,Int.reduceSub,Int.reduceMul,Int.reduceNeg,Int.reduceNe,reduceCtorEq,Int.reduceToNat,↓reduceIte]
                    refine ⟨fun h2 => ?_, fun h2 => ?_⟩
                    · simp only [h1, h2, valL, Bool.false_eq_true, and_false, if_false, if_true, wk,if_true,if_false,forall_const,implies_true,ne_eq,eq_self,Nat.reduceEqDiff,Nat.reduceAdd,Nat.reduceMul,Nat.reduceSub,Nat.reduceLeDiff,Nat.reduceLT,Int.reduceEq,Int.reduceLT,Int.reduceLE,Int.reduceAdd,Int.reduceSub,Int.reduceMul,Int.reduceNeg,Int.reduceNe,reduceCtorEq,Int.reduceToNat,↓reduceIte]
                      try rfl
                    · simp only [h1, h2, valL, Bool.false_eq_true, and_self, if_false, if_true, Int.toNat_natCast, ext_ba, hd, wk,if_true,if_false,forall_const,implies_true,ne_eq,eq_self,Nat.reduceEqDiff,Nat.reduceAdd,Nat.reduceMul,Nat.reduceSub,Nat.reduceLeDiff,Nat.reduceLT,Int.reduceEq,Int.reduceLT,Int.reduceLE,Int.reduceAdd,Int.reduceSub,Int.reduceMul,Int.reduceNeg,Int.reduceNe,reduceCtorEq,Int.reduceToNat,↓reduceIte]
                      first
                        | rfl
                        | exact ⟨⟨by omega, by omega, by omega⟩, rfl⟩
                        | exact ⟨by omega, by omega, by omega⟩
                  · simp only [h1, valL, Bool.false_eq_true, false_and, if_false, if_true, wk,if_true,if_false,forall_const,implies_true,ne_eq,eq_self,Nat.reduceEqDiff,Nat.reduceAdd,Nat.reduceMul,Nat.reduceSub,Nat.reduceLeDiff,Nat.reduceLT,Int.reduceEq,Int.reduceLT,Int.reduceLE,Int.reduceAdd,Int.reduceSub,Int.reduceMul,Int.reduceNeg,Int.reduceNe,reduceCtorEq,Int.reduceToNat,↓reduceIte]
                    try rfl
                refine ⟨fun hlt => ⟨⟨by omega, by omega⟩, ?_⟩, fun hge => hj (by omega) _⟩
                have hnl : n < L.length := by omega
                rw [Int.toNat_natCast, hLg n hnl, conv_u8]
                refine PCalls.use (p_rdigit (L[n]).toNat) ?_; simp only [wk,if_true,if_false,forall_const,implies_true,ne_eq,eq_self,Nat.reduceEqDiff,Nat.reduceAdd,Nat.reduceMul,Nat.reduceSub,Nat.reduceLeDiff,Nat.reduceLT,Int.reduceEq,Int.reduceLT,Int.reduceLE,Int.reduceAdd,Int.reduceSub,Int.reduceMul,Int.reduceNeg,Int.reduceNe,reduceCtorEq,Int.reduceToNat,↓reduceIte]
                refine ⟨fun hin => ⟨inR_of (by omega) (by omega), L.length - (n + 1), by omega, n + 1, stop_more hnl hn hin, rfl, by simp; omega⟩, fun hin => hj (stop_done hnl hn hin) _⟩
              · rw [if_neg (by simp [hdg])]
                have hsb : sigW (s.extract a (runeN s a)) = sigB b.toNat := by
                  by_cases hc : b.toNat < 128
                  · rw [hn1 hc, ext_ba, hd]
                    unfold sigW
                    rw [ba_len2, byte_at (by rw [ba_list]; simp)]
                    simp [ba_list]
                  · have hk : sigB b.toNat = false := by
                      simp [sigB]; omega
                    rw [hk]
                    unfold runeN
                    obtain ⟨d1, d2, d3, _⟩ := dec_ge hal (by rw [← hb1]; exact hc)
                    rw [if_pos ha, ext_ba, hd]
                    unfold sigW
                    obtain ⟨w, hw⟩ : ∃ w, (Utf8.decode s a).2 = w + 1 := ⟨(Utf8.decode s a).2 - 1, by omega⟩
                    rw [hw, List.take_succ_cons, byte_at (by rw [ba_list]; simp)]
                    simp only [ba_list, List.getElem_cons_zero, hk, Bool.and_false]
                have hrn : a ≤ runeN s a ∧ runeN s a ≤ s.size := by
                  unfold runeN
                  rw [if_pos ha]
                  have := step_one ha
                  omega
                simp only [J_ref04_sign_j1, Int.toNat_natCast, wk,if_true,if_false,forall_const,implies_true,ne_eq,eq_self,Nat.reduceEqDiff,Nat.reduceAdd,Nat.reduceMul,Nat.reduceSub,Nat.reduceLeDiff,Nat.reduceLT,Int.reduceEq,Int.reduceLT,Int.reduceLE,Int.reduceAdd,Int.reduceSub,Int.reduceMul,Int.reduceNeg,Int.reduceNe,reduceCtorEq,Int.reduceToNat,↓reduceIte]
                refine ⟨⟨by omega, by omega, by omega⟩, ?_⟩
                have qs := p_isSign (s.extract a (runeN s a))
                rw [hsb] at qs
                refine PCalls.use (qs) ?_; simp only [wk,if_true,if_false,forall_const,implies_true,ne_eq,eq_self,Nat.reduceEqDiff,Nat.reduceAdd,Nat.reduceMul,Nat.reduceSub,Nat.reduceLeDiff,Nat.reduceLT,Int.reduceEq,Int.reduceLT,Int.reduceLE,Int.reduceAdd,Int.reduceSub,Int.reduceMul,Int.reduceNeg,Int.reduceNe,reduceCtorEq,Int.reduceToNat,↓reduceIte]
                refine ⟨fun h1 => ?_, fun h1 => ?_⟩
                · simp only [h1, valL, Bool.false_eq_true, if_false, if_true, wk,if_true,if_false,forall_const,implies_true,ne_eq,eq_self,Nat.reduceEqDiff,Nat.reduceAdd,Nat.reduceMul,Nat.reduceSub,Nat.reduceLeDiff,Nat.reduceLT,Int.reduceEq,Int.reduceLT,Int.reduceLE,Int.reduceAdd,Int.reduceSub,Int.reduceMul,Int.reduceNeg,Int.reduceNe,reduceCtorEq,Int.reduceToNat,↓reduceIte]
                  try rfl
                · have hc : b.toNat < 128 := by
                    simp [sigB] at h1; omega
                  simp only [h1, hn1 hc, ext_ba, hd, valL, Int.toNat_natCast, if_true, List.take_succ_cons, List.take_zero, wk,if_true,if_false,forall_const,implies_true,ne_eq,eq_self,Nat.reduceEqDiff,Nat.reduceAdd,Nat.reduceMul,Nat.reduceSub,Nat.reduceLeDiff,Nat.reduceLT,Int.reduceEq,Int.reduceLT,Int.reduceLE,Int.reduceAdd,Int.reduceSub,Int.reduceMul,Int.reduceNeg,Int.reduceNe,reduceCtorEq,Int.reduceToNat,↓reduceIte]
                  first
                    | exact ⟨⟨by omega, by omega, by omega⟩, rfl⟩
                    | exact ⟨by omega, by omega, by omega⟩
end Go.Proofs.Ytmbijfcjfhdnjaa

/- All tokens of a text: the plain function; the reference's All. -/
namespace Go.Proofs.Ytmbijfcjfhdnjaa
set_option linter.unusedSimpArgs false
set_option linter.unusedVariables false
open Go.RowKit Go.Lib

structure Tok where
  kind : Int
  name : ByteArray
  of : Int
  at_ : Int
def tC (t : Tok) : List AV := [.int .i64 t.kind, .str t.name, .int .i64 t.of, .int .i64 t.at_]
def toksC (l : List Tok) : List AV := l.flatMap tC
def vToks (l : List Tok) : AV := .lst .ro l.length (toksC l)
theorem frees_toks (l : List Tok) : free.frees (toksC l) = true := by
  induction l with
  | nil => rfl
  | cons x l ih => simp only [toksC, List.flatMap_cons, tC, List.cons_append, List.nil_append, free.frees, free, Bool.true_and] at ih ⊢; exact ih
theorem rdps_toks : ∀ l : List Tok, rdps (toksC l) = toksC l
  | [] => rdps_nil
  | x :: l => by
    have := rdps_toks l
    simp only [toksC, List.flatMap_cons, tC, List.cons_append, List.nil_append, rdpw] at this ⊢
    rw [this]
theorem toksC_sn (l : List Tok) (t : Tok) : toksC (l ++ [t]) = toksC l ++ [.int .i64 t.kind, .str t.name, .int .i64 t.of, .int .i64 t.at_] := by
  simp [toksC, tC]
theorem toksC_len (l : List Tok) : (toksC l).length = l.length * 4 := by
  induction l with
  | nil => rfl
  | cons x l ih => simp only [toksC, List.flatMap_cons, List.length_append, tC, List.length_cons, List.length_nil] at ih ⊢; omega
theorem toksC_drop : ∀ {l : List Tok} {i : Nat} (h : i < l.length), (toksC l).drop (i * 4) = .int .i64 l[i].kind :: .str l[i].name :: .int .i64 l[i].of :: .int .i64 l[i].at_ :: (toksC l).drop ((i + 1) * 4)
  | [], _, h => by simp at h
  | w :: l, 0, h => by simp [toksC, tC]
  | w :: l, i + 1, h => by
    have := toksC_drop (l := l) (i := i) (by simpa using h)
    simp only [toksC, List.flatMap_cons, tC, List.cons_append, List.nil_append] at this ⊢
    rw [show (i + 1) * 4 = i * 4 + 1 + 1 + 1 + 1 by omega, show (i + 1 + 1) * 4 = (i + 1) * 4 + 1 + 1 + 1 + 1 by omega]
    simp only [List.drop_succ_cons, List.getElem_cons_succ]
    exact this
/-- what a name's length says -/
theorem nameL_ok {l : List UInt8} {n : Nat} (h : nameL l = some n) : n = stopN innI l ∧ 1 ≤ n ∧ n ≤ 24 ∧ n ≤ l.length ∧ ∃ b r, l = b :: r ∧ lttI b.toNat = true := by
  unfold nameL at h
  split at h
  · cases h
  · next b r =>
    split at h
    · next hc =>
      simp only [Option.some.injEq] at h
      subst h
      have hle := stopN_le innI (b :: r)
      refine ⟨rfl, ?_, hc.2.1, hle, b, r, rfl, hc.1⟩
      have hi : innI b.toNat = true := by unfold innI; rw [hc.1]; rfl
      have := stop_more (q := innI) (l := b :: r) (n := 0) (by simp) (by omega) hi
      omega
    · cases h
/-- what is a token's is ASCII -/
def ascii (l : List UInt8) (n : Nat) : Prop := 1 ≤ n ∧ n ≤ l.length ∧ ∀ (i : Nat) (h : i < l.length), i < n → (l[i]).toNat < 128
theorem ascii_one {b : UInt8} {r : List UInt8} (h : b.toNat < 128) : ascii (b :: r) 1 := by
  refine ⟨Nat.le_refl _, by simp, fun i hi h1 => ?_⟩
  obtain rfl : i = 0 := by omega
  exact h
theorem ascii_stop {q : Int → Bool} (hq : ∀ r, 128 ≤ r → q r = false) {l : List UInt8} (h : 1 ≤ stopN q l) : ascii l (stopN q l) := by
  refine ⟨h, stopN_le q l, fun i hi h1 => ?_⟩
  have := stopN_at hi h1
  by_cases hc : (l[i]).toNat < 128
  · exact hc
  · rw [hq _ (by omega)] at this; cases this
theorem plainL_ascii {l : List UInt8} {k : Int} {w : ByteArray} {o : Int} {n : Nat} (h : plainL l = some (k, w, o, n)) : ascii l n := by
  unfold plainL at h
  split at h
  · cases h
  · next b r =>
    have one : ∀ k' : Sig, some k' = some (k, w, o, n) → k'.2.2.2 = n := fun k' e => by simp only [Option.some.injEq] at e; rw [e]
    split at h
    · next hlet =>
      split at h
      · cases h
      · next m hm =>
        obtain ⟨e1, e2, _⟩ := nameL_ok hm
        have : m = n := by
          split at h <;> exact one _ h
        subst this
        rw [e1] at e2 ⊢
        exact ascii_stop lo_inn e2
    · split at h
      · next h68 =>
        split at h
        · rw [← one _ h]; exact ascii_one (by omega)
        · cases h
      · split at h
        · next hc => rw [← one _ h]; exact ascii_one (by omega)
        · split at h
          · next hc => rw [← one _ h]; exact ascii_one (by omega)
          · split at h
            · next hc => rw [← one _ h]; exact ascii_one (by omega)
            · split at h
              · next hc =>
                split at h
                · next hn =>
                  rw [← one _ h]
                  refine ascii_stop lo_dig ?_
                  exact stop_more (q := digI) (l := b :: r) (n := 0) (by simp) (by omega) hc
                · cases h
              · split at h
                · next hc => rw [← one _ h]; exact ascii_one (by simp [sigB] at hc; omega)
                · cases h
theorem kindL_cases (l : List UInt8) : kindL l = 0 ∨ (kindL l ∈ kinds ∧ begL (preW (kindL l)) l = true) := by
  unfold kindL kinds
  split
  · next h => right; exact ⟨by simp, h⟩
  · split
    · next h => right; exact ⟨by simp, h⟩
    · split
      · next h => right; exact ⟨by simp, h⟩
      · split
        · next h => right; exact ⟨by simp, h⟩
        · exact .inl rfl
theorem signL_ascii {l : List UInt8} {k : Int} {w : ByteArray} {o : Int} {n : Nat} (h : signL l = some (k, w, o, n)) : ascii l n := by
  unfold signL at h
  split at h
  · exact plainL_ascii h
  · next hk =>
    rcases kindL_cases l with h0 | ⟨hm, hbg⟩
    · exact absurd h0 hk
    · obtain ⟨g1, g2, g3⟩ := pre_ok hm
      unfold atomL at h
      split at h
      · cases h
      · next m hn =>
        simp only [Option.some.injEq, Prod.mk.injEq] at h
        obtain ⟨_, _, _, rfl⟩ := h
        obtain ⟨e1, e2, _, e3, _⟩ := nameL_ok hn
        rw [List.length_drop] at e3
        refine ⟨by omega, by omega, fun i hi h1 => ?_⟩
        rcases Nat.lt_or_ge i (preW (kindL l)).size with h2 | h2
        · unfold begL at hbg
          have h3 := of_decide_eq_true hbg
          refine g3 _ ?_
          rw [← h3, List.mem_iff_getElem]
          exact ⟨i, by rw [List.length_take]; omega, by rw [List.getElem_take]⟩
        · obtain ⟨j, rfl⟩ : ∃ j, i = (preW (kindL l)).size + j := ⟨i - (preW (kindL l)).size, by omega⟩
          have hj : j < (l.drop (preW (kindL l)).size).length := by rw [List.length_drop]; omega
          have := stopN_at (q := innI) hj (by omega)
          rw [List.getElem_drop] at this
          by_cases hc : (l[(preW (kindL l)).size + j]).toNat < 128
          · exact hc
          · rw [lo_inn _ (by omega)] at this; cases this
abbrev Res := List Tok × Nat × Int
def blankB (b : UInt8) : Bool := b.toNat == 32 || b.toNat == 9 || b.toNat == 10
def scanF : Nat → List UInt8 → Nat → List Tok → Res
  | 0, _, _, acc => (acc, 0, 0)
  | _ + 1, [], _, acc => (acc, 0, 0)
  | f + 1, b :: r, a, acc =>
    if blankB b = true then scanF f r (a + 1) acc
    else if b.toNat = 35 then scanF f ((b :: r).drop (stopN notI (b :: r))) (a + stopN notI (b :: r)) acc
    else match signL (b :: r) with
      | none => ([], a, 2)
      | some (k, w, o, n) => if acc.length = 1000 then ([], a, 3) else scanF f ((b :: r).drop n) (a + n) (acc ++ [⟨k, w, o, a⟩])
theorem note_one {b : UInt8} {r : List UInt8} (h : b.toNat = 35) : 1 ≤ stopN notI (b :: r) := stop_more (q := notI) (l := b :: r) (n := 0) (by simp) (by omega) (by show notI b.toNat = true; rw [h]; rfl)
theorem scanF_more : ∀ (f g : Nat) (l : List UInt8) (a : Nat) (acc : List Tok), l.length ≤ f → l.length ≤ g → scanF f l a acc = scanF g l a acc
  | 0, 0, _, _, _, _, _ => rfl
  | 0, g + 1, l, a, acc, h, _ => by
    have : l = [] := List.eq_nil_of_length_eq_zero (by omega)
    subst this; rfl
  | f + 1, 0, l, a, acc, _, h => by
    have : l = [] := List.eq_nil_of_length_eq_zero (by omega)
    subst this; rfl
  | f + 1, g + 1, [], a, acc, _, _ => rfl
  | f + 1, g + 1, b :: r, a, acc, h1, h2 => by
    simp only [List.length_cons] at h1 h2
    simp only [scanF]
    split
    · exact scanF_more f g r _ _ (by omega) (by omega)
    · split
      · next h => have := note_one (r := r) h; exact scanF_more f g _ _ _ (by simp; omega) (by simp; omega)
      · split
        · rfl
        · next k w o n hs =>
          split
          · rfl
          · have := (signL_ascii hs).1
            exact scanF_more f g _ _ _ (by simp; omega) (by simp; omega)
def scan (l : List UInt8) (a : Nat) (acc : List Tok) : Res := scanF l.length l a acc
theorem scan_nil (a : Nat) (acc : List Tok) : scan [] a acc = (acc, 0, 0) := rfl
theorem scan_cons (b : UInt8) (r : List UInt8) (a : Nat) (acc : List Tok) : scan (b :: r) a acc =
    if blankB b = true then scan r (a + 1) acc
    else if b.toNat = 35 then scan ((b :: r).drop (stopN notI (b :: r))) (a + stopN notI (b :: r)) acc
    else match signL (b :: r) with
      | none => ([], a, 2)
      | some (k, w, o, n) => if acc.length = 1000 then ([], a, 3) else scan ((b :: r).drop n) (a + n) (acc ++ [⟨k, w, o, a⟩]) := by
  unfold scan
  simp only [List.length_cons, scanF]
  split
  · rfl
  · split
    · next h => have := note_one (r := r) h; exact scanF_more _ _ _ _ _ (by simp; omega) (by simp)
    · split
      · rfl
      · next k w o n hs =>
        split
        · rfl
        · have := (signL_ascii hs).1
          exact scanF_more _ _ _ _ _ (by simp; omega) (by simp)
/-- ALL TOKENS of a text -/
def allT (s : ByteArray) : Res := if 4000 < s.size then ([], 0, 3) else scan s.data.toList 0 []
def resV (r : Res) : AV := .tup [vToks r.1, .int .i64 r.2.1, .int .i64 r.2.2]
theorem ascii_at {s : ByteArray} {a n : Nat} (ha : a ≤ s.size) (h : ascii (s.data.toList.drop a) n) : a + n ≤ s.size ∧ atB s (a + n) := by
  have hl := len_size s
  obtain ⟨h1, h2, h3⟩ := h
  rw [List.length_drop] at h2
  refine ⟨by omega, .inr ⟨by omega, ?_⟩⟩
  have := h3 (n - 1) (by rw [List.length_drop]; omega) (by omega)
  rw [List.getElem_drop] at this
  have e : a + n - 1 = a + (n - 1) := by omega
  simp only [e]; exact this
theorem free_resV (r : Res) : free (resV r) = true := by simp [resV, vToks, free, free.frees, frees_toks]
/-- where the rest of a note is passed over -/
def restN (s : ByteArray) (a : Nat) (note : Bool) (acc : List Tok) : Res :=
  if note = true then scan (s.data.toList.drop (a + stopN notI (s.data.toList.drop a))) (a + stopN notI (s.data.toList.drop a)) acc else scan (s.data.toList.drop a) a acc
theorem stopN_cons {q : Int → Bool} {b : UInt8} {r : List UInt8} (h : q b.toNat = true) : stopN q (b :: r) = stopN q r + 1 := by unfold stopN; simp [List.takeWhile_cons, h]
theorem stopN_zero {q : Int → Bool} {b : UInt8} {r : List UInt8} (h : q b.toNat = false) : stopN q (b :: r) = 0 := by unfold stopN; simp [List.takeWhile_cons, h]
set_option maxRecDepth 100000 in
set_option maxHeartbeats 4000000 in
theorem p_rall (s : ByteArray) (hs : s.size ≤ 1000000) : PCalls Try.prog 29 [.str s] (resV (allT s)) := by
  have hl := len_size s
  refine pcalls_of rfl (free_resV _) (ACalls.deep (acalls_of mixed J_ref04_All_ok (Nat.le_of_ble_eq_true rfl) ?_)); simp only [J_ref04_All, wk,if_true,if_false,forall_const,implies_true,ne_eq,eq_self,Nat.reduceEqDiff,Nat.reduceAdd,Nat.reduceMul,Nat.reduceSub,Nat.reduceLeDiff,Nat.reduceLT,Int.reduceEq,Int.reduceLT,Int.reduceLE,Int.reduceAdd,Int.reduceSub,Int.reduceMul,Int.reduceNeg,Int.reduceNe,reduceCtorEq,Int.reduceToNat,↓reduceIte]
  unfold allT
  refine ⟨fun hbig => ?_, fun hbig => ?_⟩
  · rw [if_pos (by omega)]
    simp only [rdpw, resV, vToks, toksC]
    rfl
  rw [if_neg (by omega)]
  refine W_loop (fun m fr h' => ∃ (a : Nat) (note : Bool) (acc : List Tok), a ≤ s.size ∧ m = s.size - a ∧ acc.length ≤ 1000 ∧ (note = false → atB s a) ∧ scan s.data.toList 0 [] = restN s a note acc ∧ fr = [(0, .str s), (5, .lst (.own 28) acc.length (toksC acc)), (6, .int .i64 a), (7, .bool note)]) s.size ⟨0, false, [], by omega, by omega, by simp, fun _ => .inl rfl, by unfold restN; simp, rfl⟩ ?_
  rintro m fr h' ⟨a, note, acc, ha, rfl, hacc, hnb, hscan, rfl⟩
  simp only [J_ref04_All_j4, wk,if_true,if_false,forall_const,implies_true,ne_eq,eq_self,Nat.reduceEqDiff,Nat.reduceAdd,Nat.reduceMul,Nat.reduceSub,Nat.reduceLeDiff,Nat.reduceLT,Int.reduceEq,Int.reduceLT,Int.reduceLE,Int.reduceAdd,Int.reduceSub,Int.reduceMul,Int.reduceNeg,Int.reduceNe,reduceCtorEq,Int.reduceToNat,↓reduceIte]
  refine ⟨fun hlt => ⟨⟨by omega, by omega⟩, ?_⟩, fun hge => ?_⟩
  · have hal : a < s.data.toList.length := by omega
    have hd : s.data.toList.drop a = s.data.toList[a] :: s.data.toList.drop (a + 1) := List.drop_eq_getElem_cons hal
    obtain ⟨b, hb1⟩ : ∃ b, b = s.data.toList[a] := ⟨_, rfl⟩
    rw [← hb1] at hd
    rw [Int.toNat_natCast, byte_at hal, ← hb1]
    -- behind a byte that is passed over
    have next : ∀ (note' : Bool), (note' = false → atB s (a + 1)) → restN s a note acc = restN s (a + 1) note' acc → ∃ m, m < s.size - a ∧ ∃ (a' : Nat) (n' : Bool) (acc' : List Tok), a' ≤ s.size ∧ m = s.size - a' ∧ acc'.length ≤ 1000 ∧ (n' = false → atB s a') ∧ scan s.data.toList 0 [] = restN s a' n' acc' ∧ [(0, AV.str s), (5, .lst (.own 28) acc.length (toksC acc)), (6, .int .i64 (a + 1)), (7, .bool note')] = [(0, .str s), (5, .lst (.own 28) acc'.length (toksC acc')), (6, .int .i64 a'), (7, .bool n')] := fun note' h1 h2 =>
      ⟨s.size - (a + 1), by omega, a + 1, note', acc, by omega, rfl, hacc, h1, hscan.trans h2, by simp⟩
    have hab : b.toNat < 128 → atB s (a + 1) := fun h => .inr ⟨by omega, by simp only [Nat.add_sub_cancel, ← hb1]; exact h⟩
    have r_note : ∀ acc', notI b.toNat = true → restN s a true acc' = restN s (a + 1) true acc' := fun acc' hq => by
      unfold restN
      rw [if_pos rfl, if_pos rfl, hd, stopN_cons hq]
      rw [show a + (stopN notI (s.data.toList.drop (a + 1)) + 1) = a + 1 + stopN notI (s.data.toList.drop (a + 1)) by omega]
    have r_end : ∀ nt : Bool, b.toNat = 10 → restN s a nt acc = restN s (a + 1) false acc := fun nt h => by
      have hz : stopN notI (b :: s.data.toList.drop (a + 1)) = 0 := stopN_zero (by rw [h]; rfl)
      have hs1 : scan (b :: s.data.toList.drop (a + 1)) a acc = scan (s.data.toList.drop (a + 1)) (a + 1) acc := by rw [scan_cons, if_pos (by simp [blankB, h])]
      unfold restN
      cases nt with
      | true => rw [if_pos rfl, if_neg (by simp), hd, hz, Nat.add_zero, hd, hs1]
      | false => rw [if_neg (by simp), if_neg (by simp), hd, hs1]
    have r_blank : blankB b = true → restN s a false acc = restN s (a + 1) false acc := fun h => by
      unfold restN
      rw [if_neg (by simp), if_neg (by simp), hd, scan_cons, if_pos h]
    have r_hash : b.toNat = 35 → restN s a false acc = restN s (a + 1) true acc := fun h => by
      have hq : notI b.toNat = true := by rw [h]; rfl
      unfold restN
      rw [if_neg (by simp), if_pos rfl, hd, scan_cons, if_neg (by simp [blankB, h]), if_pos h, stopN_cons hq, List.drop_succ_cons, List.drop_drop]
      rw [show a + (stopN notI (s.data.toList.drop (a + 1)) + 1) = a + 1 + stopN notI (s.data.toList.drop (a + 1)) by omega]
    refine ⟨fun e10 => ?_, fun e10 => ?_⟩
    · have h10 : b.toNat = 10 := by omega
      simp only [J_ref04_All_j3, J_ref04_All_j2, e10, wk,if_true,if_false,forall_const,implies_true,ne_eq,eq_self,Nat.reduceEqDiff,Nat.reduceAdd,Nat.reduceMul,Nat.reduceSub,Nat.reduceLeDiff,Nat.reduceLT,Int.reduceEq,Int.reduceLT,Int.reduceLE,Int.reduceAdd,Int.reduceSub,Int.reduceMul,Int.reduceNeg,Int.reduceNe,reduceCtorEq,Int.reduceToNat,↓reduceIte]
      exact ⟨inR_of (by omega) (by omega), next false (fun _ => hab (by omega)) (r_end note h10)⟩
    · have hq : notI b.toNat = true := by simp [notI]; omega
      simp only [J_ref04_All_j3, wk,if_true,if_false,forall_const,implies_true,ne_eq,eq_self,Nat.reduceEqDiff,Nat.reduceAdd,Nat.reduceMul,Nat.reduceSub,Nat.reduceLeDiff,Nat.reduceLT,Int.reduceEq,Int.reduceLT,Int.reduceLE,Int.reduceAdd,Int.reduceSub,Int.reduceMul,Int.reduceNeg,Int.reduceNe,reduceCtorEq,Int.reduceToNat,↓reduceIte]
      refine ⟨fun e35 => ?_, fun e35 => ?_⟩
      · simp only [J_ref04_All_j2, e35, wk,if_true,if_false,forall_const,implies_true,ne_eq,eq_self,Nat.reduceEqDiff,Nat.reduceAdd,Nat.reduceMul,Nat.reduceSub,Nat.reduceLeDiff,Nat.reduceLT,Int.reduceEq,Int.reduceLT,Int.reduceLE,Int.reduceAdd,Int.reduceSub,Int.reduceMul,Int.reduceNeg,Int.reduceNe,reduceCtorEq,Int.reduceToNat,↓reduceIte]
        refine ⟨inR_of (by omega) (by omega), next true (fun h => by cases h) ?_⟩
        cases note with
        | true => exact r_note acc hq
        | false => exact r_hash (by omega)
      · cases note with
        | true =>
          simp only [J_ref04_All_j2, wk,if_true,if_false,forall_const,implies_true,ne_eq,eq_self,Nat.reduceEqDiff,Nat.reduceAdd,Nat.reduceMul,Nat.reduceSub,Nat.reduceLeDiff,Nat.reduceLT,Int.reduceEq,Int.reduceLT,Int.reduceLE,Int.reduceAdd,Int.reduceSub,Int.reduceMul,Int.reduceNeg,Int.reduceNe,reduceCtorEq,Int.reduceToNat,↓reduceIte]
          exact ⟨inR_of (by omega) (by omega), next true (fun h => by cases h) (r_note acc hq)⟩
        | false =>
          have hba := hnb rfl
          have e10f : ((b.toNat : Int) = 10) = False := by simpa using e10
          by_cases hbl : blankB b = true
          · have h2 : b.toNat = 32 ∨ b.toNat = 9 := by simp [blankB] at hbl; omega
            have hn := next false (fun _ => hab (by omega)) (r_blank hbl)
            simp only [J_ref04_All_j2, wk,if_true,if_false,forall_const,implies_true,ne_eq,eq_self,Nat.reduceEqDiff,Nat.reduceAdd,Nat.reduceMul,Nat.reduceSub,Nat.reduceLeDiff,Nat.reduceLT,Int.reduceEq,Int.reduceLT,Int.reduceLE,Int.reduceAdd,Int.reduceSub,Int.reduceMul,Int.reduceNeg,Int.reduceNe,reduceCtorEq,Int.reduceToNat,↓reduceIte]
            refine ⟨fun e32 => ?_, fun e32 => ?_⟩
            · exact ⟨fun e9 => ⟨fun _ => ⟨inR_of (by omega) (by omega), hn⟩, fun n10 => by omega⟩, fun _ => ⟨inR_of (by omega) (by omega), hn⟩⟩
            · exact ⟨inR_of (by omega) (by omega), hn⟩
          · have b1 : ((b.toNat : Int) = 32) = False := by simp [blankB] at hbl ⊢; omega
            have b2 : ((b.toNat : Int) = 9) = False := by simp [blankB] at hbl ⊢; omega
            simp only [J_ref04_All_j2, e10f, b1, b2, not_false_eq_true, true_implies, false_implies, wk,if_true,if_false,forall_const,implies_true,ne_eq,eq_self,Nat.reduceEqDiff,Nat.reduceAdd,Nat.reduceMul,Nat.reduceSub,Nat.reduceLeDiff,Nat.reduceLT,Int.reduceEq,Int.reduceLT,Int.reduceLE,Int.reduceAdd,Int.reduceSub,Int.reduceMul,Int.reduceNeg,Int.reduceNe,reduceCtorEq,Int.reduceToNat,↓reduceIte]
            have qs := p_rsign s a hs (by omega) hba
            unfold signRV at qs
            rw [hd] at qs
            have hrest : scan s.data.toList 0 [] = match signL (b :: s.data.toList.drop (a + 1)) with
                | none => ([], a, 2)
                | some (k, w, o, n) => if acc.length = 1000 then ([], a, 3) else scan ((b :: s.data.toList.drop (a + 1)).drop n) (a + n) (acc ++ [⟨k, w, o, a⟩]) := by
              rw [hscan]
              unfold restN
              rw [if_neg (by simp), hd, scan_cons, if_neg hbl, if_neg (by omega)]
            cases hsg : signL (b :: s.data.toList.drop (a + 1)) with
            | none =>
              rw [hsg] at qs hrest
              refine PCalls.use (qs) ?_; simp only [wk,if_true,if_false,forall_const,implies_true,ne_eq,eq_self,Nat.reduceEqDiff,Nat.reduceAdd,Nat.reduceMul,Nat.reduceSub,Nat.reduceLeDiff,Nat.reduceLT,Int.reduceEq,Int.reduceLT,Int.reduceLE,Int.reduceAdd,Int.reduceSub,Int.reduceMul,Int.reduceNeg,Int.reduceNe,reduceCtorEq,Int.reduceToNat,↓reduceIte]
              simp only [hrest, resV, vToks, toksC, rdpw, wk,if_true,if_false,forall_const,implies_true,ne_eq,eq_self,Nat.reduceEqDiff,Nat.reduceAdd,Nat.reduceMul,Nat.reduceSub,Nat.reduceLeDiff,Nat.reduceLT,Int.reduceEq,Int.reduceLT,Int.reduceLE,Int.reduceAdd,Int.reduceSub,Int.reduceMul,Int.reduceNeg,Int.reduceNe,reduceCtorEq,Int.reduceToNat,↓reduceIte]
              rfl
            | some x =>
              obtain ⟨k, w, o, n⟩ := x
              rw [hsg] at qs hrest
              refine PCalls.use (qs) ?_; simp only [wk,if_true,if_false,forall_const,implies_true,ne_eq,eq_self,Nat.reduceEqDiff,Nat.reduceAdd,Nat.reduceMul,Nat.reduceSub,Nat.reduceLeDiff,Nat.reduceLT,Int.reduceEq,Int.reduceLT,Int.reduceLE,Int.reduceAdd,Int.reduceSub,Int.reduceMul,Int.reduceNeg,Int.reduceNe,reduceCtorEq,Int.reduceToNat,↓reduceIte]
              have hasc := signL_ascii hsg
              rw [← hd] at hasc
              obtain ⟨k1, k2⟩ := ascii_at (by omega) hasc
              have hn1 := hasc.1
              refine ⟨fun h => by omega, fun _ => ⟨fun h => ?_, fun h => ?_⟩⟩
              · simp only [hrest, show acc.length = 1000 by omega, if_true, resV, vToks, toksC, rdpw]
                rfl
              · refine ⟨⟨by omega, by omega⟩, s.size - (a + n), by omega, a + n, false, acc ++ [⟨k, w, o, a⟩], by omega, rfl, by simp; omega, fun _ => k2, ?_, ?_⟩
                · rw [hrest]
                  simp only
                  rw [if_neg (by omega), ← hd, List.drop_drop]
                  unfold restN
                  rw [if_neg (by simp)]
                · simp [toksC_sn]
  · have hn : scan s.data.toList 0 [] = (acc, 0, 0) := by
      rw [hscan]
      unfold restN
      rw [List.drop_of_length_le (by omega), List.drop_of_length_le (by omega)]
      split <;> rfl
    simp only [J_ref04_All_j1, hn, resV, vToks, rdpw, rdps_toks, wk,if_true,if_false,forall_const,implies_true,ne_eq,eq_self,Nat.reduceEqDiff,Nat.reduceAdd,Nat.reduceMul,Nat.reduceSub,Nat.reduceLeDiff,Nat.reduceLT,Int.reduceEq,Int.reduceLT,Int.reduceLE,Int.reduceAdd,Int.reduceSub,Int.reduceMul,Int.reduceNeg,Int.reduceNe,reduceCtorEq,Int.reduceToNat,↓reduceIte]
    rfl
end Go.Proofs.Ytmbijfcjfhdnjaa

/- Names; the library's searches; the program's number, Word, name, sign. -/
namespace Go.Proofs.Ytmbijfcjfhdnjaa
set_option linter.unusedSimpArgs false
set_option linter.unusedVariables false
open Go.RowKit Go.Lib

def mayL (l : List UInt8) : Bool := decide (1 ≤ l.length) && (decide (l.length ≤ 24) && (lttI ((l.headD 0).toNat) && l.all fun b => innI b.toNat))
def mayN (s : ByteArray) : Bool := mayL s.data.toList
theorem mayL_bad {l : List UInt8} {i : Nat} (h : i < l.length) (hb : innI (l[i]).toNat = false) : mayL l = false := by
  have : l.all (fun b => innI b.toNat) = false := by
    rw [List.all_eq_false]; exact ⟨_, List.getElem_mem h, fun h2 => by rw [hb] at h2; cases h2⟩
  unfold mayL
  rw [this]; simp
theorem headD_get {l : List UInt8} (h : 0 < l.length) : l.headD 0 = l[0] := by
  cases l with
  | nil => simp at h
  | cons b r => rfl
set_option maxHeartbeats 4000000 in
theorem p_amay (s : ByteArray) (hs : s.size ≤ 9223372036854775807) : PCalls Try.prog 59 [.str s] (.bool (mayN s)) := by
  have hl := len_size s
  have no : mayN s = false → AV.bool false = .bool (mayN s) := fun h => by rw [h]
  refine pcalls_of (by first | rfl | simp [free, free.frees, frees_str, frees_u8, frees_u16]) (by first | rfl | simp [free, free.frees, frees_str, frees_u8, frees_u16]) (acalls_of mixed J_atom_May_ok (Nat.le_of_ble_eq_true rfl) ?_); simp only [J_atom_May, wk,if_true,if_false,forall_const,implies_true,ne_eq,eq_self,Nat.reduceEqDiff,Nat.reduceAdd,Nat.reduceMul,Nat.reduceSub,Nat.reduceLeDiff,Nat.reduceLT,Int.reduceEq,Int.reduceLT,Int.reduceLE,Int.reduceAdd,Int.reduceSub,Int.reduceMul,Int.reduceNeg,Int.reduceNe,reduceCtorEq,Int.reduceToNat,↓reduceIte]
  refine ⟨fun h1 => ⟨fun h2 => no ?_, fun h2 => ?_⟩, fun h1 => no ?_⟩
  · have : ¬ s.data.toList.length ≤ 24 := by omega
    unfold mayN mayL; rw [decide_eq_false this]; simp only [Bool.false_and, Bool.and_false]
  rotate_left
  · have : ¬ 1 ≤ s.data.toList.length := by omega
    unfold mayN mayL; rw [decide_eq_false this]; simp only [Bool.false_and]
  refine W_loop (fun m fr h' => ∃ n : Nat, n ≤ s.data.toList.length ∧ m = s.data.toList.length - n ∧ fr = [(0, .str s), (3, .int .i64 n)] ∧ (∀ b ∈ s.data.toList.take n, innI b.toNat = true) ∧ (0 < n → lttI ((s.data.toList.headD 0).toNat) = true)) s.data.toList.length ⟨0, by omega, by omega, rfl, by simp, by simp⟩ ?_
  rintro m fr h' ⟨n, hn, rfl, rfl, hall, hhd⟩
  simp only [J_atom_May_j3, wk,if_true,if_false,forall_const,implies_true,ne_eq,eq_self,Nat.reduceEqDiff,Nat.reduceAdd,Nat.reduceMul,Nat.reduceSub,Nat.reduceLeDiff,Nat.reduceLT,Int.reduceEq,Int.reduceLT,Int.reduceLE,Int.reduceAdd,Int.reduceSub,Int.reduceMul,Int.reduceNeg,Int.reduceNe,reduceCtorEq,Int.reduceToNat,↓reduceIte]
  refine ⟨fun hlt => ⟨⟨by omega, by omega⟩, ?_⟩, fun hge => ?_⟩
  · have hnl : n < s.data.toList.length := by omega
    rw [Int.toNat_natCast, byte_at hnl]
    obtain ⟨b, hb⟩ : ∃ b, b = s.data.toList[n] := ⟨_, rfl⟩
    rw [← hb]
    have hnx : innI b.toNat = true → (n = 0 → lttI b.toNat = true) → inR ((n : Int) + 1) ∧ ∃ m, m < s.data.toList.length - n ∧ ∃ n' : Nat, n' ≤ s.data.toList.length ∧ m = s.data.toList.length - n' ∧ [(0, AV.str s), (3, .int .i64 ((n : Int) + 1))] = [(0, .str s), (3, .int .i64 n')] ∧ (∀ b ∈ s.data.toList.take n', innI b.toNat = true) ∧ (0 < n' → lttI ((s.data.toList.headD 0).toNat) = true) := fun hi hz =>
      ⟨inR_of (by omega) (by omega), s.data.toList.length - (n + 1), by omega, n + 1, by omega, rfl, by simp, fun c hc => by
        rw [List.take_succ_eq_append_getElem hnl] at hc
        rcases List.mem_append.1 hc with hc | hc
        · exact hall c hc
        · simp at hc; subst hc; rw [hb] at hi; simpa using hi, fun _ => by
        rcases Nat.eq_zero_or_pos n with h0 | h0
        · subst h0; rw [headD_get (by omega), ← hb]; exact hz rfl
        · exact hhd h0⟩
    have hbad : innI b.toNat = false → mayN s = false := fun h => mayL_bad hnl (by rw [← hb]; exact h)
    have hbad0 : n = 0 → lttI b.toNat = false → mayN s = false := fun h0 h => by
      subst h0
      unfold mayN mayL
      rw [headD_get (by omega), ← hb, h]
      simp only [Bool.false_and, Bool.and_false]
    repeat' (first | (with_reducible refine And.intro ?_ ?_) | intro _)
    all_goals first
      | (simp only [J_atom_May_j2, wk,if_true,if_false,forall_const,implies_true,ne_eq,eq_self,Nat.reduceEqDiff,Nat.reduceAdd,Nat.reduceMul,Nat.reduceSub,Nat.reduceLeDiff,Nat.reduceLT,Int.reduceEq,Int.reduceLT,Int.reduceLE,Int.reduceAdd,Int.reduceSub,Int.reduceMul,Int.reduceNeg,Int.reduceNe,reduceCtorEq,Int.reduceToNat,↓reduceIte]; exact hnx (by simp [innI, digI, lttI]; omega) (by intro _; simp [lttI]; omega))
      | exact no (hbad (by simp [innI, digI, lttI]; omega))
      | exact no (hbad0 (by omega) (by simp [lttI]; omega))
  · rw [List.take_of_length_le (by omega)] at hall
    simp only [J_atom_May_j1, wk,if_true,if_false,forall_const,implies_true,ne_eq,eq_self,Nat.reduceEqDiff,Nat.reduceAdd,Nat.reduceMul,Nat.reduceSub,Nat.reduceLeDiff,Nat.reduceLT,Int.reduceEq,Int.reduceLT,Int.reduceLE,Int.reduceAdd,Int.reduceSub,Int.reduceMul,Int.reduceNeg,Int.reduceNe,reduceCtorEq,Int.reduceToNat,↓reduceIte]
    congr 1
    symm
    unfold mayN mayL
    have h3 := hhd (by omega)
    have h4 : s.data.toList.all (fun b => innI b.toNat) = true := List.all_eq_true.2 hall
    simp only [h3, h4, Bool.and_true, Bool.and_eq_true, decide_eq_true_eq]
    omega
set_option maxRecDepth 100000 in
set_option maxHeartbeats 4000000 in
theorem p_rmay01 (s : ByteArray) (hs : s.size ≤ 9223372036854775807) : PCalls Try.prog 49 [.str s] (.bool (mayN s)) := by
  have hl := len_size s
  have no : mayN s = false → AV.bool false = .bool (mayN s) := fun h => by rw [h]
  refine pcalls_of (by first | rfl | simp [free, free.frees, frees_str, frees_u8, frees_u16]) (by first | rfl | simp [free, free.frees, frees_str, frees_u8, frees_u16]) (acalls_of mixed J_ref01_May_ok (Nat.le_of_ble_eq_true rfl) ?_); simp only [J_ref01_May, wk,if_true,if_false,forall_const,implies_true,ne_eq,eq_self,Nat.reduceEqDiff,Nat.reduceAdd,Nat.reduceMul,Nat.reduceSub,Nat.reduceLeDiff,Nat.reduceLT,Int.reduceEq,Int.reduceLT,Int.reduceLE,Int.reduceAdd,Int.reduceSub,Int.reduceMul,Int.reduceNeg,Int.reduceNe,reduceCtorEq,Int.reduceToNat,↓reduceIte]
  refine ⟨fun h1 => ⟨fun h2 => no ?_, fun h2 => ?_⟩, fun h1 => no ?_⟩
  · have : ¬ s.data.toList.length ≤ 24 := by omega
    unfold mayN mayL; rw [decide_eq_false this]; simp only [Bool.false_and, Bool.and_false]
  rotate_left
  · have : ¬ 1 ≤ s.data.toList.length := by omega
    unfold mayN mayL; rw [decide_eq_false this]; simp only [Bool.false_and]
  refine W_loop (fun m fr h' => ∃ n : Nat, n ≤ s.data.toList.length ∧ m = s.data.toList.length - n ∧ fr = [(0, .str s), (3, .int .i64 n)] ∧ (∀ b ∈ s.data.toList.take n, innI b.toNat = true) ∧ (0 < n → lttI ((s.data.toList.headD 0).toNat) = true)) s.data.toList.length ⟨0, by omega, by omega, rfl, by simp, by simp⟩ ?_
  rintro m fr h' ⟨n, hn, rfl, rfl, hall, hhd⟩
  simp only [J_ref01_May_j2, wk,if_true,if_false,forall_const,implies_true,ne_eq,eq_self,Nat.reduceEqDiff,Nat.reduceAdd,Nat.reduceMul,Nat.reduceSub,Nat.reduceLeDiff,Nat.reduceLT,Int.reduceEq,Int.reduceLT,Int.reduceLE,Int.reduceAdd,Int.reduceSub,Int.reduceMul,Int.reduceNeg,Int.reduceNe,reduceCtorEq,Int.reduceToNat,↓reduceIte]
  refine ⟨fun hlt => ⟨⟨by omega, by omega⟩, ?_⟩, fun hge => ?_⟩
  · have hnl : n < s.data.toList.length := by omega
    rw [Int.toNat_natCast, byte_at hnl]
    obtain ⟨b, hb⟩ : ∃ b, b = s.data.toList[n] := ⟨_, rfl⟩
    rw [← hb]
    have hnx : innI b.toNat = true → (n = 0 → lttI b.toNat = true) → inR ((n : Int) + 1) ∧ ∃ m, m < s.data.toList.length - n ∧ ∃ n' : Nat, n' ≤ s.data.toList.length ∧ m = s.data.toList.length - n' ∧ [(0, AV.str s), (3, .int .i64 ((n : Int) + 1))] = [(0, .str s), (3, .int .i64 n')] ∧ (∀ b ∈ s.data.toList.take n', innI b.toNat = true) ∧ (0 < n' → lttI ((s.data.toList.headD 0).toNat) = true) := fun hi hz =>
      ⟨inR_of (by omega) (by omega), s.data.toList.length - (n + 1), by omega, n + 1, by omega, rfl, by simp, fun c hc => by
        rw [List.take_succ_eq_append_getElem hnl] at hc
        rcases List.mem_append.1 hc with hc | hc
        · exact hall c hc
        · simp at hc; subst hc; rw [hb] at hi; simpa using hi, fun _ => by
        rcases Nat.eq_zero_or_pos n with h0 | h0
        · subst h0; rw [headD_get (by omega), ← hb]; exact hz rfl
        · exact hhd h0⟩
    have hbad : innI b.toNat = false → mayN s = false := fun h => mayL_bad hnl (by rw [← hb]; exact h)
    have hbad0 : n = 0 → lttI b.toNat = false → mayN s = false := fun h0 h => by
      subst h0
      unfold mayN mayL
      rw [headD_get (by omega), ← hb, h]
      simp only [Bool.false_and, Bool.and_false]
    repeat' (first | (with_reducible refine And.intro ?_ ?_) | intro _)
    all_goals first
      | exact no (hbad (by simp [innI, digI, lttI]; omega))
      | exact no (hbad0 (by omega) (by simp [lttI]; omega))
      | exact (hnx (by simp [innI, digI, lttI]; omega) (by intro _; simp [lttI]; omega)).1
      | exact (hnx (by simp [innI, digI, lttI]; omega) (by intro _; simp [lttI]; omega)).2
  · rw [List.take_of_length_le (by omega)] at hall
    simp only [J_ref01_May_j1, wk,if_true,if_false,forall_const,implies_true,ne_eq,eq_self,Nat.reduceEqDiff,Nat.reduceAdd,Nat.reduceMul,Nat.reduceSub,Nat.reduceLeDiff,Nat.reduceLT,Int.reduceEq,Int.reduceLT,Int.reduceLE,Int.reduceAdd,Int.reduceSub,Int.reduceMul,Int.reduceNeg,Int.reduceNe,reduceCtorEq,Int.reduceToNat,↓reduceIte]
    congr 1
    symm
    unfold mayN mayL
    have h3 := hhd (by omega)
    have h4 : s.data.toList.all (fun b => innI b.toNat) = true := List.all_eq_true.2 hall
    simp only [h3, h4, Bool.and_true, Bool.and_eq_true, decide_eq_true_eq]
    omega
def signsS : ByteArray := ⟨#[61, 44, 59, 60, 62, 33, 63, 42]⟩
theorem find_sign : ∀ n : Fin 256, decide (0 ≤ indexByte signsS.data.toList (UInt8.ofNat n)) = sigB n := by decide +kernel
theorem p_ibyte (s : ByteArray) (c : Int) : PCalls Try.prog 86 [.str s, .int .u8 c] (.int .i64 (indexByte s.data.toList c.toNat.toUInt8)) := by
  refine pcalls_of (by first | rfl | simp [free, free.frees, frees_str, frees_u8, frees_u16]) (by first | rfl | simp [free, free.frees, frees_str, frees_u8, frees_u16]) (acalls_of mixed J_internal_stringslite_IndexByte_ok (Nat.le_of_ble_eq_true rfl) ?_); simp only [J_internal_stringslite_IndexByte, wk,if_true,if_false,forall_const,implies_true,ne_eq,eq_self,Nat.reduceEqDiff,Nat.reduceAdd,Nat.reduceMul,Nat.reduceSub,Nat.reduceLeDiff,Nat.reduceLT,Int.reduceEq,Int.reduceLT,Int.reduceLE,Int.reduceAdd,Int.reduceSub,Int.reduceMul,Int.reduceNeg,Int.reduceNe,reduceCtorEq,Int.reduceToNat,↓reduceIte]
theorem p_sibyte (s : ByteArray) (c : Int) : PCalls Try.prog 82 [.str s, .int .u8 c] (.int .i64 (indexByte s.data.toList c.toNat.toUInt8)) := by
  refine pcalls_of (by first | rfl | simp [free, free.frees, frees_str, frees_u8, frees_u16]) (by first | rfl | simp [free, free.frees, frees_str, frees_u8, frees_u16]) (acalls_of mixed J_strings_IndexByte_ok (Nat.le_of_ble_eq_true rfl) ?_); simp only [J_strings_IndexByte, wk,if_true,if_false,forall_const,implies_true,ne_eq,eq_self,Nat.reduceEqDiff,Nat.reduceAdd,Nat.reduceMul,Nat.reduceSub,Nat.reduceLeDiff,Nat.reduceLT,Int.reduceEq,Int.reduceLT,Int.reduceLE,Int.reduceAdd,Int.reduceSub,Int.reduceMul,Int.reduceNeg,Int.reduceNe,reduceCtorEq,Int.reduceToNat,↓reduceIte]
  refine PCalls.use (p_ibyte s c) ?_; simp only [wk,if_true,if_false,forall_const,implies_true,ne_eq,eq_self,Nat.reduceEqDiff,Nat.reduceAdd,Nat.reduceMul,Nat.reduceSub,Nat.reduceLeDiff,Nat.reduceLT,Int.reduceEq,Int.reduceLT,Int.reduceLE,Int.reduceAdd,Int.reduceSub,Int.reduceMul,Int.reduceNeg,Int.reduceNe,reduceCtorEq,Int.reduceToNat,↓reduceIte]
theorem p_lindex (s x : ByteArray) (hx : x.size = 1) : PCalls Try.prog 78 [.str s, .str x] (.int .i64 (indexByte s.data.toList (byteAt x 0).toUInt8)) := by
  obtain ⟨b, rfl⟩ := one_byte hx
  have e0 : byteAt ⟨#[b]⟩ 0 = b.toNat := rfl
  refine pcalls_of (by first | rfl | simp [free, free.frees, frees_str, frees_u8, frees_u16]) (by first | rfl | simp [free, free.frees, frees_str, frees_u8, frees_u16]) (acalls_of mixed J_internal_stringslite_Index_ok (Nat.le_of_ble_eq_true rfl) ?_); simp only [J_internal_stringslite_Index, wk,if_true,if_false,forall_const,implies_true,ne_eq,eq_self,Nat.reduceEqDiff,Nat.reduceAdd,Nat.reduceMul,Nat.reduceSub,Nat.reduceLeDiff,Nat.reduceLT,Int.reduceEq,Int.reduceLT,Int.reduceLE,Int.reduceAdd,Int.reduceSub,Int.reduceMul,Int.reduceNeg,Int.reduceNe,reduceCtorEq,Int.reduceToNat,↓reduceIte]
  rw [e0]
  have e1 : ((⟨#[b]⟩ : ByteArray).size : Int) = 1 := rfl
  have q := p_ibyte s b.toNat
  rw [Int.toNat_natCast] at q
  refine ⟨fun _ => ⟨fun h => ?_, fun h => ⟨fun _ => ⟨by omega, PCalls.use q ?_⟩, fun h => absurd e1 h⟩⟩, fun h => by omega⟩
  · rw [← h]
    have : b.toNat.toUInt8 = b := by simp
    simp [indexByte, this]
  · simp only [wk,if_true,if_false,forall_const,implies_true,ne_eq,eq_self,Nat.reduceEqDiff,Nat.reduceAdd,Nat.reduceMul,Nat.reduceSub,Nat.reduceLeDiff,Nat.reduceLT,Int.reduceEq,Int.reduceLT,Int.reduceLE,Int.reduceAdd,Int.reduceSub,Int.reduceMul,Int.reduceNeg,Int.reduceNe,reduceCtorEq,Int.reduceToNat,↓reduceIte]
theorem p_sindex (s x : ByteArray) (hx : x.size = 1) : PCalls Try.prog 61 [.str s, .str x] (.int .i64 (indexByte s.data.toList (byteAt x 0).toUInt8)) := by
  refine pcalls_of (by first | rfl | simp [free, free.frees, frees_str, frees_u8, frees_u16]) (by first | rfl | simp [free, free.frees, frees_str, frees_u8, frees_u16]) (acalls_of mixed J_strings_Index_ok (Nat.le_of_ble_eq_true rfl) ?_); simp only [J_strings_Index, wk,if_true,if_false,forall_const,implies_true,ne_eq,eq_self,Nat.reduceEqDiff,Nat.reduceAdd,Nat.reduceMul,Nat.reduceSub,Nat.reduceLeDiff,Nat.reduceLT,Int.reduceEq,Int.reduceLT,Int.reduceLE,Int.reduceAdd,Int.reduceSub,Int.reduceMul,Int.reduceNeg,Int.reduceNe,reduceCtorEq,Int.reduceToNat,↓reduceIte]
  refine PCalls.use (p_lindex s x hx) ?_; simp only [wk,if_true,if_false,forall_const,implies_true,ne_eq,eq_self,Nat.reduceEqDiff,Nat.reduceAdd,Nat.reduceMul,Nat.reduceSub,Nat.reduceLeDiff,Nat.reduceLT,Int.reduceEq,Int.reduceLT,Int.reduceLE,Int.reduceAdd,Int.reduceSub,Int.reduceMul,Int.reduceNeg,Int.reduceNe,reduceCtorEq,Int.reduceToNat,↓reduceIte]
theorem sign_find (n : Nat) (h : n < 256) : decide (0 ≤ indexByte signsS.data.toList n.toUInt8) = sigB n := by
  have := find_sign ⟨n, h⟩
  simpa using this
theorem p_contains1 (x : ByteArray) (hx : x.size = 1) : PCalls Try.prog 37 [.str signsS, .str x] (.bool (sigB (byteAt x 0))) := by
  obtain ⟨b, rfl⟩ := one_byte hx
  have e0 : byteAt ⟨#[b]⟩ 0 = b.toNat := rfl
  have hf := sign_find b.toNat b.toNat_lt
  refine pcalls_of (by first | rfl | simp [free, free.frees, frees_str, frees_u8, frees_u16]) (by first | rfl | simp [free, free.frees, frees_str, frees_u8, frees_u16]) (acalls_of mixed J_strings_Contains_ok (Nat.le_of_ble_eq_true rfl) ?_); simp only [J_strings_Contains, wk,if_true,if_false,forall_const,implies_true,ne_eq,eq_self,Nat.reduceEqDiff,Nat.reduceAdd,Nat.reduceMul,Nat.reduceSub,Nat.reduceLeDiff,Nat.reduceLT,Int.reduceEq,Int.reduceLT,Int.reduceLE,Int.reduceAdd,Int.reduceSub,Int.reduceMul,Int.reduceNeg,Int.reduceNe,reduceCtorEq,Int.reduceToNat,↓reduceIte]
  refine PCalls.use (p_sindex signsS ⟨#[b]⟩ hx) ?_; simp only [wk,if_true,if_false,forall_const,implies_true,ne_eq,eq_self,Nat.reduceEqDiff,Nat.reduceAdd,Nat.reduceMul,Nat.reduceSub,Nat.reduceLeDiff,Nat.reduceLT,Int.reduceEq,Int.reduceLT,Int.reduceLE,Int.reduceAdd,Int.reduceSub,Int.reduceMul,Int.reduceNeg,Int.reduceNe,reduceCtorEq,Int.reduceToNat,↓reduceIte]
  rw [e0, ← hf]
theorem p_validRune (r : Int) : PCalls Try.prog 83 [.int .i32 r] (.bool ((decide (0 ≤ r) && decide (r < 55296)) || (decide (57343 < r) && decide (r ≤ 1114111)))) := by
  refine pcalls_of (by first | rfl | simp [free, free.frees, frees_str, frees_u8, frees_u16]) (by first | rfl | simp [free, free.frees, frees_str, frees_u8, frees_u16]) (acalls_of mixed J_unicode_utf8_ValidRune_ok (Nat.le_of_ble_eq_true rfl) ?_); simp only [J_unicode_utf8_ValidRune, wk,if_true,if_false,forall_const,implies_true,ne_eq,eq_self,Nat.reduceEqDiff,Nat.reduceAdd,Nat.reduceMul,Nat.reduceSub,Nat.reduceLeDiff,Nat.reduceLT,Int.reduceEq,Int.reduceLT,Int.reduceLE,Int.reduceAdd,Int.reduceSub,Int.reduceMul,Int.reduceNeg,Int.reduceNe,reduceCtorEq,Int.reduceToNat,↓reduceIte]
  repeat' (first | (with_reducible refine And.intro ?_ ?_) | intro _)
  all_goals (congr 1; simp_all; try omega)
theorem ibyte_no {c : UInt8} (hc : 128 ≤ c.toNat) : ∀ {l : List UInt8}, (∀ b ∈ l, b.toNat < 128) → indexByte l c = -1
  | [], _ => rfl
  | b :: l, h => by
    have h1 := h b (by simp)
    have h2 := ibyte_no hc (l := l) (fun x hx => h x (by simp [hx]))
    have h3 : (b == c) = false := by
      rw [beq_eq_false_iff_ne]; intro e; subst e; omega
    simp [indexByte, h2, h3]
theorem enc_hi {r : Int} (h0 : 128 ≤ r) (h1 : r ≤ 1114111) (hv : Utf8.valid r = true) : 2 ≤ (Utf8.encode r).size ∧ (Utf8.encode r).size ≤ 4 ∧ 128 ≤ byteAt (Utf8.encode r) ((Utf8.encode r).size - 1) ∧ byteAt (Utf8.encode r) ((Utf8.encode r).size - 1) < 256 := by
  have e : (if Utf8.valid r = true then r.toNat else Utf8.runeError) = r.toNat := if_pos hv
  have h80 : ∀ n : Nat, 128 ≤ (UInt8.ofNat (128 + n % 64)).toNat ∧ (UInt8.ofNat (128 + n % 64)).toNat < 256 := fun n => by
    rw [UInt8.toNat_ofNat']; omega
  unfold Utf8.encode
  simp only [e]
  rw [if_neg (by omega)]
  split
  · exact ⟨Nat.le_of_ble_eq_true rfl, Nat.le_of_ble_eq_true rfl, h80 _⟩
  · split
    · exact ⟨Nat.le_of_ble_eq_true rfl, Nat.le_of_ble_eq_true rfl, h80 _⟩
    · exact ⟨Nat.le_of_ble_eq_true rfl, Nat.le_of_ble_eq_true rfl, h80 _⟩
theorem signs_lo : ∀ b ∈ signsS.data.toList, b.toNat < 128 := by decide
set_option maxRecDepth 100000 in
set_option maxHeartbeats 4000000 in
theorem p_indexRune (r : Int) (h0 : 0 ≤ r) (h1 : r ≤ 1114111) (hv : 128 ≤ r → Utf8.valid r = true) : PCalls Try.prog 75 [.str signsS, .int .i32 r] (.int .i64 (if r < 128 then indexByte signsS.data.toList r.toNat.toUInt8 else -1)) := by
  refine pcalls_of (by first | rfl | simp [free, free.frees, frees_str, frees_u8, frees_u16]) (by first | rfl | simp [free, free.frees, frees_str, frees_u8, frees_u16]) (acalls_of mixed J_strings_IndexRune_ok (Nat.le_of_ble_eq_true rfl) ?_); simp only [J_strings_IndexRune, wk,if_true,if_false,forall_const,implies_true,ne_eq,eq_self,Nat.reduceEqDiff,Nat.reduceAdd,Nat.reduceMul,Nat.reduceSub,Nat.reduceLeDiff,Nat.reduceLT,Int.reduceEq,Int.reduceLT,Int.reduceLE,Int.reduceAdd,Int.reduceSub,Int.reduceMul,Int.reduceNeg,Int.reduceNe,reduceCtorEq,Int.reduceToNat,↓reduceIte]
  refine ⟨fun _ => ⟨fun hlt => ?_, fun hge => ⟨fun h65 => ?_, fun h65 => ?_⟩⟩, fun hn => absurd h0 hn⟩
  · have hw : IntKind.u8.wrap r = r := by rw [IntKind.wrap_u8]; omega
    rw [hw]
    refine PCalls.use (p_sibyte signsS r) ?_; simp only [wk,if_true,if_false,forall_const,implies_true,ne_eq,eq_self,Nat.reduceEqDiff,Nat.reduceAdd,Nat.reduceMul,Nat.reduceSub,Nat.reduceLeDiff,Nat.reduceLT,Int.reduceEq,Int.reduceLT,Int.reduceLE,Int.reduceAdd,Int.reduceSub,Int.reduceMul,Int.reduceNeg,Int.reduceNe,reduceCtorEq,Int.reduceToNat,↓reduceIte]
    rw [if_pos hlt]
  · rw [if_neg hge]
    refine W_loop (fun m fr h' => ∃ p : Nat, p ≤ signsS.data.toList.length ∧ m = signsS.data.toList.length - p ∧ fr = [(175, .itr signsS p)]) 8 ⟨0, by omega, by decide, rfl⟩ ?_
    rintro m fr h' ⟨p, hp, rfl, rfl⟩
    have hl := len_size signsS
    simp only [J_strings_IndexRune_j2, wk,if_true,if_false,forall_const,implies_true,ne_eq,eq_self,Nat.reduceEqDiff,Nat.reduceAdd,Nat.reduceMul,Nat.reduceSub,Nat.reduceLeDiff,Nat.reduceLT,Int.reduceEq,Int.reduceLT,Int.reduceLE,Int.reduceAdd,Int.reduceSub,Int.reduceMul,Int.reduceNeg,Int.reduceNe,reduceCtorEq,Int.reduceToNat,↓reduceIte]
    refine ⟨fun hlt => ?_, fun hge2 => ?_⟩
    · have hpl : p < signsS.data.toList.length := by omega
      have hlo := signs_lo _ (List.getElem_mem hpl)
      rw [dec_lt hpl hlo]
      refine ⟨fun h => ?_, fun _ => ?_⟩
      · exfalso; simp only at h; omega
      · exact ⟨signsS.data.toList.length - (p + 1), by omega, p + 1, by omega, rfl, rfl⟩
    · simp only [J_strings_IndexRune_j1, wk,if_true,if_false,forall_const,implies_true,ne_eq,eq_self,Nat.reduceEqDiff,Nat.reduceAdd,Nat.reduceMul,Nat.reduceSub,Nat.reduceLeDiff,Nat.reduceLT,Int.reduceEq,Int.reduceLT,Int.reduceLE,Int.reduceAdd,Int.reduceSub,Int.reduceMul,Int.reduceNeg,Int.reduceNe,reduceCtorEq,Int.reduceToNat,↓reduceIte]
  · rw [if_neg hge]
    have hv' := hv (by omega)
    have qv := p_validRune r
    rw [show ((decide (0 ≤ r) && decide (r < 55296)) || (decide (57343 < r) && decide (r ≤ 1114111))) = true by
      unfold Utf8.valid at hv'
      simp only [Bool.or_eq_true, Bool.and_eq_true, decide_eq_true_eq] at hv' ⊢
      omega] at qv
    obtain ⟨g1, g2, g3, g4⟩ := enc_hi (by omega) h1 hv'
    obtain ⟨E, hE⟩ : ∃ E, E = Utf8.encode r := ⟨_, rfl⟩
    rw [← hE] at g1 g2 g3 g4
    refine PCalls.use (qv) ?_; simp only [wk,if_true,if_false,forall_const,implies_true,ne_eq,eq_self,Nat.reduceEqDiff,Nat.reduceAdd,Nat.reduceMul,Nat.reduceSub,Nat.reduceLeDiff,Nat.reduceLT,Int.reduceEq,Int.reduceLT,Int.reduceLE,Int.reduceAdd,Int.reduceSub,Int.reduceMul,Int.reduceNeg,Int.reduceNe,reduceCtorEq,Int.reduceToNat,↓reduceIte]
    rw [← hE]
    refine ⟨inR_of (by omega) (by omega), ?_⟩
    refine W_loop (fun m fr h' => fr = [(0, .str signsS), (7, .str E), (8, .int .i64 (E.size - 1)), (9, .int .i64 (E.size - 1))]) 0 rfl ?_
    rintro m fr h' rfl
    have hs8 : signsS.size = 8 := rfl
    have hl := len_size signsS
    have e1 : ((E.size : Int) - 1).toNat = E.size - 1 := by omega
    have e2 : ((E.size : Int) - 1 + 1).toNat = E.size := by omega
    have hlo := signs_lo _ (List.getElem_mem (show E.size - 1 < signsS.data.toList.length by omega))
    have hne : ((byteAt signsS (E.size - 1) : Nat) : Int) ≠ (byteAt E (E.size - 1) : Nat) := by
      rw [byte_at (show E.size - 1 < signsS.data.toList.length by omega)]; omega
    simp only [J_strings_IndexRune_j12, e1, e2, hs8, hne, wk,if_true,if_false,forall_const,implies_true,ne_eq,eq_self,Nat.reduceEqDiff,Nat.reduceAdd,Nat.reduceMul,Nat.reduceSub,Nat.reduceLeDiff,Nat.reduceLT,Int.reduceEq,Int.reduceLT,Int.reduceLE,Int.reduceAdd,Int.reduceSub,Int.reduceMul,Int.reduceNeg,Int.reduceNe,reduceCtorEq,Int.reduceToNat,↓reduceIte]
    have qi := p_sibyte (signsS.extract E.size ((8 : Nat) : Int).toNat) (byteAt E (E.size - 1))
    rw [ibyte_no (by rw [Int.toNat_natCast]; rw [show (byteAt E (E.size - 1)).toUInt8.toNat = byteAt E (E.size - 1) by simp; omega]; exact g3) (fun b hb => by
      refine signs_lo b ?_
      simp only [ByteArray.data_extract, Array.toList_extract, List.extract_eq_take_drop] at hb
      exact List.mem_of_mem_drop (List.mem_of_mem_take hb))] at qi
    refine ⟨fun _ => ⟨⟨by omega, by omega⟩, ⟨by omega, by omega⟩, inR_of (by omega) (by omega), ⟨by omega, by omega, by omega⟩, ⟨by omega, by omega⟩, _, qi, ?_⟩, fun h => absurd (by omega) h⟩
    simp only [wk,if_true,if_false,forall_const,implies_true,ne_eq,eq_self,Nat.reduceEqDiff,Nat.reduceAdd,Nat.reduceMul,Nat.reduceSub,Nat.reduceLeDiff,Nat.reduceLT,Int.reduceEq,Int.reduceLT,Int.reduceLE,Int.reduceAdd,Int.reduceSub,Int.reduceMul,Int.reduceNeg,Int.reduceNe,reduceCtorEq,Int.reduceToNat,↓reduceIte]
/-- is a rune among the signs? -/
theorem p_containsRune (r : Int) (h0 : 0 ≤ r) (h1 : r ≤ 1114111) (hv : 128 ≤ r → Utf8.valid r = true) : PCalls Try.prog 54 [.str signsS, .int .i32 r] (.bool (sigB r.toNat)) := by
  refine pcalls_of (by first | rfl | simp [free, free.frees, frees_str, frees_u8, frees_u16]) (by first | rfl | simp [free, free.frees, frees_str, frees_u8, frees_u16]) (acalls_of mixed J_strings_ContainsRune_ok (Nat.le_of_ble_eq_true rfl) ?_); simp only [J_strings_ContainsRune, wk,if_true,if_false,forall_const,implies_true,ne_eq,eq_self,Nat.reduceEqDiff,Nat.reduceAdd,Nat.reduceMul,Nat.reduceSub,Nat.reduceLeDiff,Nat.reduceLT,Int.reduceEq,Int.reduceLT,Int.reduceLE,Int.reduceAdd,Int.reduceSub,Int.reduceMul,Int.reduceNeg,Int.reduceNe,reduceCtorEq,Int.reduceToNat,↓reduceIte]
  refine PCalls.use (p_indexRune r h0 h1 hv) ?_; simp only [wk,if_true,if_false,forall_const,implies_true,ne_eq,eq_self,Nat.reduceEqDiff,Nat.reduceAdd,Nat.reduceMul,Nat.reduceSub,Nat.reduceLeDiff,Nat.reduceLT,Int.reduceEq,Int.reduceLT,Int.reduceLE,Int.reduceAdd,Int.reduceSub,Int.reduceMul,Int.reduceNeg,Int.reduceNe,reduceCtorEq,Int.reduceToNat,↓reduceIte]
  by_cases hlt : r < 128
  · rw [if_pos hlt]
    have := sign_find r.toNat (by omega)
    rw [this]
  · rw [if_neg hlt]
    have : sigB r.toNat = false := by simp [sigB]; omega
    rw [this]
    rfl
end Go.Proofs.Ytmbijfcjfhdnjaa

/- How a token is written: the program's Word, and the reference's. -/
namespace Go.Proofs.Ytmbijfcjfhdnjaa
set_option linter.unusedSimpArgs false
set_option linter.unusedVariables false
open Go.RowKit Go.Lib

theorem stop_all {q : Int → Bool} {l : List UInt8} : (stopN q l = l.length) ↔ l.all (fun b => q b.toNat) = true := by
  rw [List.all_eq_true]
  constructor
  · intro h b hb
    obtain ⟨i, hi, rfl⟩ := List.mem_iff_getElem.1 hb
    exact stopN_at hi (by omega)
  · intro h
    unfold stopN
    exact tw_len (Nat.le_refl _) (by rw [List.take_length]; exact h) (fun h => by omega)
theorem p_number (s : ByteArray) (hs : s.size ≤ 1000000) : PCalls Try.prog 36 [.str s] (.bool (numW s)) := by
  have hl := len_size s
  have q := p_stop (f := 55) p_digit hi_dig s 0 hs (by omega)
  rw [List.drop_zero] at q
  have hst := stop_all (q := digI) (l := s.data.toList)
  have no : numW s = false → AV.bool false = .bool (numW s) := fun h => by rw [h]
  refine pcalls_of (by first | rfl | simp [free, free.frees, frees_str, frees_u8, frees_u16]) (by first | rfl | simp [free, free.frees, frees_str, frees_u8, frees_u16]) (acalls_of mixed J_token_number_ok (Nat.le_of_ble_eq_true rfl) ?_); simp only [J_token_number, wk,if_true,if_false,forall_const,implies_true,ne_eq,eq_self,Nat.reduceEqDiff,Nat.reduceAdd,Nat.reduceMul,Nat.reduceSub,Nat.reduceLeDiff,Nat.reduceLT,Int.reduceEq,Int.reduceLT,Int.reduceLE,Int.reduceAdd,Int.reduceSub,Int.reduceMul,Int.reduceNeg,Int.reduceNe,reduceCtorEq,Int.reduceToNat,↓reduceIte]
  have fin : (1 ≤ s.size ∧ s.size ≤ 9 ∧ (byteAt s 0 ≠ 48 ∨ s.size = 1)) → ∀ x : Int, x = (0 : Nat) + (stopN digI s.data.toList : Nat) → AV.bool (decide (x = s.size)) = .bool (numW s) := by
    rintro ⟨h1, h2, h3⟩ x rfl
    congr 1
    unfold numW
    rw [Bool.eq_iff_iff]
    simp only [decide_eq_true_eq, Bool.and_eq_true, Bool.or_eq_true]
    rw [← hst]
    omega
  repeat' (first | (refine PCalls.use q ?_; simp only [wk,if_true,if_false,forall_const,implies_true,ne_eq,eq_self,Nat.reduceEqDiff,Nat.reduceAdd,Nat.reduceMul,Nat.reduceSub,Nat.reduceLeDiff,Nat.reduceLT,Int.reduceEq,Int.reduceLT,Int.reduceLE,Int.reduceAdd,Int.reduceSub,Int.reduceMul,Int.reduceNeg,Int.reduceNe,reduceCtorEq,Int.reduceToNat,↓reduceIte]) | (with_reducible refine And.intro ?_ ?_) | intro _)
  all_goals first
    | omega
    | exact fin (by omega) _ rfl
    | (apply no; unfold numW; simp_all; done)
    | (apply no; unfold numW; simp_all; omega)
def atomW (o : Int) (w : ByteArray) : ByteArray :=
  if o = 0 then (if w = ⟨#[68]⟩ then w else ⟨#[]⟩)
  else if mayN w = true then (if o = 1 ∨ o = 2 ∨ o = 4 ∨ o = 5 then preW o ++ w else if o = 3 ∧ keyW w = 0 then w else ⟨#[]⟩) else ⟨#[]⟩
def wordT (k : Int) (w : ByteArray) (o : Int) : ByteArray :=
  if k = 1 then atomW o w
  else if o ≠ 0 then ⟨#[]⟩
  else if k = 8 then (if numW w = true then w else ⟨#[]⟩)
  else if k = 9 then (if sigW w = true then w else ⟨#[]⟩)
  else if w ≠ ⟨#[]⟩ then ⟨#[]⟩
  else if k = 2 then ⟨#[97, 110, 100]⟩
  else if k = 3 then ⟨#[102, 111, 114]⟩
  else if k = 5 then ⟨#[97, 115]⟩
  else if k = 4 then ⟨#[124]⟩
  else if k = 6 then ⟨#[40]⟩
  else if k = 7 then ⟨#[41]⟩
  else ⟨#[]⟩
set_option maxRecDepth 100000 in
set_option maxHeartbeats 4000000 in
theorem p_atomWord (o : Int) (w : ByteArray) (hw : w.size ≤ 1000000) : PCalls Try.prog 35 [.int .i64 o, .str w] (.str (atomW o w)) := by
  have qm := p_amay w (by omega)
  have qk := p_keyword w
  refine pcalls_of (by first | rfl | simp [free, free.frees, frees_str, frees_u8, frees_u16]) (by first | rfl | simp [free, free.frees, frees_str, frees_u8, frees_u16]) (acalls_of mixed J_token_atomWord_ok (Nat.le_of_ble_eq_true rfl) ?_); simp only [J_token_atomWord, wk,if_true,if_false,forall_const,implies_true,ne_eq,eq_self,Nat.reduceEqDiff,Nat.reduceAdd,Nat.reduceMul,Nat.reduceSub,Nat.reduceLeDiff,Nat.reduceLT,Int.reduceEq,Int.reduceLT,Int.reduceLE,Int.reduceAdd,Int.reduceSub,Int.reduceMul,Int.reduceNeg,Int.reduceNe,reduceCtorEq,Int.reduceToNat,↓reduceIte]
  repeat' (first | (refine PCalls.use qm ?_; simp only [wk,if_true,if_false,forall_const,implies_true,ne_eq,eq_self,Nat.reduceEqDiff,Nat.reduceAdd,Nat.reduceMul,Nat.reduceSub,Nat.reduceLeDiff,Nat.reduceLT,Int.reduceEq,Int.reduceLT,Int.reduceLE,Int.reduceAdd,Int.reduceSub,Int.reduceMul,Int.reduceNeg,Int.reduceNe,reduceCtorEq,Int.reduceToNat,↓reduceIte]) | (refine PCalls.use qk ?_; simp only [wk,if_true,if_false,forall_const,implies_true,ne_eq,eq_self,Nat.reduceEqDiff,Nat.reduceAdd,Nat.reduceMul,Nat.reduceSub,Nat.reduceLeDiff,Nat.reduceLT,Int.reduceEq,Int.reduceLT,Int.reduceLE,Int.reduceAdd,Int.reduceSub,Int.reduceMul,Int.reduceNeg,Int.reduceNe,reduceCtorEq,Int.reduceToNat,↓reduceIte]) | (with_reducible refine And.intro ?_ ?_) | intro _)
  all_goals first
    | (simp only [J_token_atomWord_j1, wk,if_true,if_false,forall_const,implies_true,ne_eq,eq_self,Nat.reduceEqDiff,Nat.reduceAdd,Nat.reduceMul,Nat.reduceSub,Nat.reduceLeDiff,Nat.reduceLT,Int.reduceEq,Int.reduceLT,Int.reduceLE,Int.reduceAdd,Int.reduceSub,Int.reduceMul,Int.reduceNeg,Int.reduceNe,reduceCtorEq,Int.reduceToNat,↓reduceIte]; congr 1; unfold atomW; simp_all; done)
    | (congr 1; unfold atomW preW; simp_all; done)
    | exact (show ∀ n : Nat, n ≤ 6 → n + w.size ≤ 9223372036854775807 from fun n h => by omega) _ (Nat.le_of_ble_eq_true rfl)
theorem sigW_one {w : ByteArray} (h : w.size = 1) : sigW w = sigB (byteAt w 0) := by unfold sigW; simp [h]
set_option maxRecDepth 100000 in
set_option maxHeartbeats 4000000 in
theorem p_word (k : Int) (w : ByteArray) (o a : Int) (hw : w.size ≤ 1000000) : PCalls Try.prog 14 [.agg [.int .i64 k, .str w, .int .i64 o, .int .i64 a]] (.str (wordT k w o)) := by
  have qa := p_atomWord o w hw
  have qn := p_number w hw
  refine pcalls_of (by first | rfl | simp [free, free.frees, frees_str, frees_u8, frees_u16]) (by first | rfl | simp [free, free.frees, frees_str, frees_u8, frees_u16]) (acalls_of mixed J_token_Word_ok (Nat.le_of_ble_eq_true rfl) ?_); simp only [J_token_Word, wk,if_true,if_false,forall_const,implies_true,ne_eq,eq_self,Nat.reduceEqDiff,Nat.reduceAdd,Nat.reduceMul,Nat.reduceSub,Nat.reduceLeDiff,Nat.reduceLT,Int.reduceEq,Int.reduceLT,Int.reduceLE,Int.reduceAdd,Int.reduceSub,Int.reduceMul,Int.reduceNeg,Int.reduceNe,reduceCtorEq,Int.reduceToNat,↓reduceIte]
  repeat' (first | (refine PCalls.use qa ?_; simp only [wk,if_true,if_false,forall_const,implies_true,ne_eq,eq_self,Nat.reduceEqDiff,Nat.reduceAdd,Nat.reduceMul,Nat.reduceSub,Nat.reduceLeDiff,Nat.reduceLT,Int.reduceEq,Int.reduceLT,Int.reduceLE,Int.reduceAdd,Int.reduceSub,Int.reduceMul,Int.reduceNeg,Int.reduceNe,reduceCtorEq,Int.reduceToNat,↓reduceIte]) | (refine PCalls.use qn ?_; simp only [wk,if_true,if_false,forall_const,implies_true,ne_eq,eq_self,Nat.reduceEqDiff,Nat.reduceAdd,Nat.reduceMul,Nat.reduceSub,Nat.reduceLeDiff,Nat.reduceLT,Int.reduceEq,Int.reduceLT,Int.reduceLE,Int.reduceAdd,Int.reduceSub,Int.reduceMul,Int.reduceNeg,Int.reduceNe,reduceCtorEq,Int.reduceToNat,↓reduceIte]) | (refine PCalls.use (p_contains1 w (by omega)) ?_; simp only [wk,if_true,if_false,forall_const,implies_true,ne_eq,eq_self,Nat.reduceEqDiff,Nat.reduceAdd,Nat.reduceMul,Nat.reduceSub,Nat.reduceLeDiff,Nat.reduceLT,Int.reduceEq,Int.reduceLT,Int.reduceLE,Int.reduceAdd,Int.reduceSub,Int.reduceMul,Int.reduceNeg,Int.reduceNe,reduceCtorEq,Int.reduceToNat,↓reduceIte]) | (with_reducible refine And.intro ?_ ?_) | intro _)
  all_goals first
    | (congr 1; unfold wordT; simp_all; done)
    | (congr 1; unfold wordT; rw [sigW_one (by omega)]; simp_all; done)
    | (congr 1; unfold wordT sigW; simp_all; done)
    | (have hz : ¬ w.size = 1 := by omega
       congr 1; unfold wordT sigW; simp_all; done)
theorem preW_size (o : Int) : (preW o).size ≤ 6 := by
  unfold preW
  repeat' split
  all_goals decide
theorem ba_empty (w : ByteArray) : (⟨#[]⟩ : ByteArray) ++ w = w := by
  apply ByteArray.ext; apply Array.ext'; simp
theorem word_atom {k : Int} {w : ByteArray} {o : Int} (h1 : k = 1) (h2 : mayN w = true) (h3 : 1 ≤ o) (h4 : o ≤ 5) (h5 : o = 3 → keyW w = 0) : preW o ++ w = wordT k w o := by
  subst h1
  rcases (show o = 1 ∨ o = 2 ∨ o = 3 ∨ o = 4 ∨ o = 5 by omega) with rfl | rfl | rfl | rfl | rfl
  all_goals simp [wordT, atomW, h2, preW, ba_empty]
  exact (fun h => absurd (h5 rfl) h)
theorem word_atom3 {k : Int} {w : ByteArray} {o : Int} (h1 : k = 1) (h2 : mayN w = true) (h3 : o = 3) (h5 : ¬ keyW w = 0) : (⟨#[]⟩ : ByteArray) = wordT k w o := by
  subst h1; subst h3
  simp [wordT, atomW, h2, h5]
theorem word_none {k : Int} {w : ByteArray} {o : Int} (h1 : k = 1) (h0 : ¬ o = 0) (h2 : o < 1 ∨ 5 < o) : (⟨#[]⟩ : ByteArray) = wordT k w o := by
  subst h1
  have e1 : ¬ o = 1 := by omega
  have e2 : ¬ o = 2 := by omega
  have e3 : ¬ o = 3 := by omega
  have e4 : ¬ o = 4 := by omega
  have e5 : ¬ o = 5 := by omega
  simp [wordT, atomW, h0, e1, e2, e3, e4, e5]
theorem word_far {k : Int} {w : ByteArray} {o : Int} (h1 : ¬ k = 1) (h2 : ¬ k = 8) (h3 : ¬ k = 9) (h4 : k < 2 ∨ 7 < k) : (⟨#[]⟩ : ByteArray) = wordT k w o := by
  have e2 : ¬ k = 2 := by omega
  have e3 : ¬ k = 3 := by omega
  have e4 : ¬ k = 4 := by omega
  have e5 : ¬ k = 5 := by omega
  have e6 : ¬ k = 6 := by omega
  have e7 : ¬ k = 7 := by omega
  simp [wordT, h1, h2, h3, e2, e3, e4, e5, e6, e7]
theorem word_key {k : Int} {w : ByteArray} {o : Int} {K : AV → Prop} (h0 : o = 0) (hw : w = ⟨#[]⟩) (h1 : 2 ≤ k) (h2 : k ≤ 7) (hK : K (.str (wordT k w o))) :
    loadK none (List.drop (k - 2).toNat [AV.str ⟨#[97, 110, 100]⟩, .str ⟨#[102, 111, 114]⟩, .str ⟨#[124]⟩, .str ⟨#[97, 115]⟩, .str ⟨#[40]⟩, .str ⟨#[41]⟩]) K := by
  subst h0; subst hw
  rcases (show k = 2 ∨ k = 3 ∨ k = 4 ∨ k = 5 ∨ k = 6 ∨ k = 7 by omega) with rfl | rfl | rfl | rfl | rfl | rfl <;> exact hK
set_option maxRecDepth 100000 in
set_option maxHeartbeats 4000000 in
theorem p_rword04 (k : Int) (w : ByteArray) (o a : Int) (hw : w.size ≤ 1000000) : PCalls Try.prog 30 [.agg [.int .i64 k, .str w, .int .i64 o, .int .i64 a]] (.str (wordT k w o)) := by
  have qm := p_rmay01 w (by omega)
  have qk := p_rkeyword w
  have qn := p_rnumber w hw
  have qs := p_isSign w
  have qp := p_prefix o
  refine pcalls_of (by first | rfl | simp [free, free.frees, frees_str, frees_u8, frees_u16]) (by first | rfl | simp [free, free.frees, frees_str, frees_u8, frees_u16]) (acalls_of mixed J_ref04_Word_ok (Nat.le_of_ble_eq_true rfl) ?_); simp only [J_ref04_Word, wk,if_true,if_false,forall_const,implies_true,ne_eq,eq_self,Nat.reduceEqDiff,Nat.reduceAdd,Nat.reduceMul,Nat.reduceSub,Nat.reduceLeDiff,Nat.reduceLT,Int.reduceEq,Int.reduceLT,Int.reduceLE,Int.reduceAdd,Int.reduceSub,Int.reduceMul,Int.reduceNeg,Int.reduceNe,reduceCtorEq,Int.reduceToNat,↓reduceIte]
  repeat' (first | (refine PCalls.use qm ?_; simp only [wk,if_true,if_false,forall_const,implies_true,ne_eq,eq_self,Nat.reduceEqDiff,Nat.reduceAdd,Nat.reduceMul,Nat.reduceSub,Nat.reduceLeDiff,Nat.reduceLT,Int.reduceEq,Int.reduceLT,Int.reduceLE,Int.reduceAdd,Int.reduceSub,Int.reduceMul,Int.reduceNeg,Int.reduceNe,reduceCtorEq,Int.reduceToNat,↓reduceIte]) | (refine PCalls.use qk ?_; simp only [wk,if_true,if_false,forall_const,implies_true,ne_eq,eq_self,Nat.reduceEqDiff,Nat.reduceAdd,Nat.reduceMul,Nat.reduceSub,Nat.reduceLeDiff,Nat.reduceLT,Int.reduceEq,Int.reduceLT,Int.reduceLE,Int.reduceAdd,Int.reduceSub,Int.reduceMul,Int.reduceNeg,Int.reduceNe,reduceCtorEq,Int.reduceToNat,↓reduceIte]) | (refine PCalls.use qn ?_; simp only [wk,if_true,if_false,forall_const,implies_true,ne_eq,eq_self,Nat.reduceEqDiff,Nat.reduceAdd,Nat.reduceMul,Nat.reduceSub,Nat.reduceLeDiff,Nat.reduceLT,Int.reduceEq,Int.reduceLT,Int.reduceLE,Int.reduceAdd,Int.reduceSub,Int.reduceMul,Int.reduceNeg,Int.reduceNe,reduceCtorEq,Int.reduceToNat,↓reduceIte]) | (refine PCalls.use qs ?_; simp only [wk,if_true,if_false,forall_const,implies_true,ne_eq,eq_self,Nat.reduceEqDiff,Nat.reduceAdd,Nat.reduceMul,Nat.reduceSub,Nat.reduceLeDiff,Nat.reduceLT,Int.reduceEq,Int.reduceLT,Int.reduceLE,Int.reduceAdd,Int.reduceSub,Int.reduceMul,Int.reduceNeg,Int.reduceNe,reduceCtorEq,Int.reduceToNat,↓reduceIte]) | (refine ⟨_, qp, ?_⟩; simp only [wk,if_true,if_false,forall_const,implies_true,ne_eq,eq_self,Nat.reduceEqDiff,Nat.reduceAdd,Nat.reduceMul,Nat.reduceSub,Nat.reduceLeDiff,Nat.reduceLT,Int.reduceEq,Int.reduceLT,Int.reduceLE,Int.reduceAdd,Int.reduceSub,Int.reduceMul,Int.reduceNeg,Int.reduceNe,reduceCtorEq,Int.reduceToNat,↓reduceIte]) | (with_reducible refine And.intro ?_ ?_) | intro _)
  all_goals first
    | (congr 1; unfold wordT; simp_all; done)
    | (congr 1; unfold wordT atomW; simp_all; done)
    | (have := preW_size o; omega)
    | (refine inR_of ?_ ?_ <;> omega)
    | (congr 1; apply word_atom <;> first | assumption | omega | (intro _; first | assumption | omega))
    | (congr 1; apply word_atom3 <;> first | assumption | omega)
    | (congr 1; apply word_none <;> first | assumption | omega)
    | (congr 1; apply word_far <;> first | assumption | omega)
    | (refine word_key (by assumption) (by assumption) (by omega) (by omega) ?_; simp only [wk,if_true,if_false,forall_const,implies_true,ne_eq,eq_self,Nat.reduceEqDiff,Nat.reduceAdd,Nat.reduceMul,Nat.reduceSub,Nat.reduceLeDiff,Nat.reduceLT,Int.reduceEq,Int.reduceLT,Int.reduceLE,Int.reduceAdd,Int.reduceSub,Int.reduceMul,Int.reduceNeg,Int.reduceNe,reduceCtorEq,Int.reduceToNat,↓reduceIte])
end Go.Proofs.Ytmbijfcjfhdnjaa

/- The program's name and sign. -/
namespace Go.Proofs.Ytmbijfcjfhdnjaa
set_option linter.unusedSimpArgs false
set_option linter.unusedVariables false
open Go.RowKit Go.Lib

def colonL (l : List UInt8) : Bool := match l with
  | [] => false
  | b :: _ => b.toNat == 58
/-- a name's token, as the program tells it -/
def pnameL (l : List UInt8) : Sig :=
  if aheW (ba (l.take (stopN innI l))) ≠ 0 ∧ colonL (l.drop (stopN innI l)) = true then
    (1, ba ((l.drop (stopN innI l + 1)).take (stopN innI (l.drop (stopN innI l + 1)))), aheW (ba (l.take (stopN innI l))), stopN innI l + 1 + stopN innI (l.drop (stopN innI l + 1)))
  else if keyW (ba (l.take (stopN innI l))) ≠ 0 then (keyW (ba (l.take (stopN innI l))), ba [], 0, stopN innI l)
  else (1, ba (l.take (stopN innI l)), 3, stopN innI l)
def sigV (x : Sig) (a : Nat) : AV := .tup [.agg [.int .i64 x.1, .str x.2.1, .int .i64 x.2.2.1, .int .i64 0], .int .i64 (a + x.2.2.2 : Nat)]
set_option maxRecDepth 100000 in
set_option maxHeartbeats 4000000 in
theorem p_pname (s : ByteArray) (a : Nat) (hs : s.size ≤ 1000000) (ha : a < s.size) :
    PCalls Try.prog 57 [.str s, .int .i64 a] (sigV (pnameL (s.data.toList.drop a)) a) := by
  have hl := len_size s
  obtain ⟨L, hL⟩ : ∃ L, L = s.data.toList.drop a := ⟨_, rfl⟩
  have hLl : L.length = s.size - a := by rw [hL, List.length_drop]; omega
  have hle := stopN_le innI L
  have q1 := p_stop (f := 76) p_inName hi_inn s a hs (by omega)
  rw [← hL] at q1 ⊢
  obtain ⟨m, hm⟩ : ∃ m, m = stopN innI L := ⟨_, rfl⟩
  rw [← hm] at q1 hle
  rw [show ((a : Int) + (m : Nat)) = ((a + m : Nat) : Int) by omega] at q1
  refine pcalls_of (by first | rfl | simp [free, free.frees, frees_str, frees_u8, frees_u16]) (by first | rfl | simp [free, free.frees, frees_str, frees_u8, frees_u16]) (acalls_of mixed J_token_name_ok (Nat.le_of_ble_eq_true rfl) ?_); simp only [J_token_name, wk,if_true,if_false,forall_const,implies_true,ne_eq,eq_self,Nat.reduceEqDiff,Nat.reduceAdd,Nat.reduceMul,Nat.reduceSub,Nat.reduceLeDiff,Nat.reduceLT,Int.reduceEq,Int.reduceLT,Int.reduceLE,Int.reduceAdd,Int.reduceSub,Int.reduceMul,Int.reduceNeg,Int.reduceNe,reduceCtorEq,Int.reduceToNat,↓reduceIte]
  refine PCalls.use (q1) ?_; simp only [wk,if_true,if_false,forall_const,implies_true,ne_eq,eq_self,Nat.reduceEqDiff,Nat.reduceAdd,Nat.reduceMul,Nat.reduceSub,Nat.reduceLeDiff,Nat.reduceLT,Int.reduceEq,Int.reduceLT,Int.reduceLE,Int.reduceAdd,Int.reduceSub,Int.reduceMul,Int.reduceNeg,Int.reduceNe,reduceCtorEq,Int.reduceToNat,↓reduceIte]
  have hw : s.extract a (a + m) = ba (L.take m) := by rw [ext_ba, ← hL]
  simp only [Int.toNat_natCast, hw, wk,if_true,if_false,forall_const,implies_true,ne_eq,eq_self,Nat.reduceEqDiff,Nat.reduceAdd,Nat.reduceMul,Nat.reduceSub,Nat.reduceLeDiff,Nat.reduceLT,Int.reduceEq,Int.reduceLT,Int.reduceLE,Int.reduceAdd,Int.reduceSub,Int.reduceMul,Int.reduceNeg,Int.reduceNe,reduceCtorEq,Int.reduceToNat,↓reduceIte]
  refine ⟨⟨by omega, by omega, by omega⟩, ?_⟩
  refine PCalls.use (p_ahead (ba (L.take m))) ?_; simp only [wk,if_true,if_false,forall_const,implies_true,ne_eq,eq_self,Nat.reduceEqDiff,Nat.reduceAdd,Nat.reduceMul,Nat.reduceSub,Nat.reduceLeDiff,Nat.reduceLT,Int.reduceEq,Int.reduceLT,Int.reduceLE,Int.reduceAdd,Int.reduceSub,Int.reduceMul,Int.reduceNeg,Int.reduceNe,reduceCtorEq,Int.reduceToNat,↓reduceIte]
  have hcol : colonL (L.drop m) = true ↔ (a + m < s.size ∧ byteAt s (a + m) = 58) := by
    rcases Nat.lt_or_ge (a + m) s.size with h | h
    · have hml : m < L.length := by omega
      rw [List.drop_eq_getElem_cons hml]
      have e : L[m] = s.data.toList[a + m] := by simp only [hL, List.getElem_drop]
      rw [byte_at (show a + m < s.data.toList.length by omega), ← e]
      simp [colonL, h]
    · rw [List.drop_of_length_le (by omega)]
      simp [colonL]; omega
  have hd2 : s.data.toList.drop (a + m + 1) = L.drop (m + 1) := by rw [hL, List.drop_drop, Nat.add_assoc]
  have e1 : ((a : Int) + (m : Nat)) = ((a + m : Nat) : Int) := by omega
  have yes : (aheW (ba (L.take m)) ≠ 0 ∧ colonL (L.drop m) = true) → pnameL L = (1, ba ((L.drop (m + 1)).take (stopN innI (L.drop (m + 1)))), aheW (ba (L.take m)), m + 1 + stopN innI (L.drop (m + 1))) := fun h => by
    unfold pnameL; rw [← hm, if_pos h]
  have no : ¬ (aheW (ba (L.take m)) ≠ 0 ∧ colonL (L.drop m) = true) → pnameL L = if keyW (ba (L.take m)) ≠ 0 then (keyW (ba (L.take m)), ba [], 0, m) else (1, ba (L.take m), 3, m) := fun h => by
    unfold pnameL; rw [← hm, if_neg h]
  have qk := p_keyword (ba (L.take m))
  refine ⟨fun h1 => ⟨fun h2 => ⟨⟨by omega, by omega⟩, fun h3 => ⟨inR_of (by omega) (by omega), ?_⟩, fun h3 => ?_⟩, fun h2 => ?_⟩, fun h1 => ?_⟩
  · rw [Int.toNat_natCast] at h3
    have q2 := p_stop (f := 76) p_inName hi_inn s (a + m + 1) hs (by omega)
    rw [hd2] at q2
    have y := yes ⟨h1, hcol.2 ⟨by omega, by omega⟩⟩
    obtain ⟨m2, hm2⟩ : ∃ m2, m2 = stopN innI (L.drop (m + 1)) := ⟨_, rfl⟩
    rw [← hm2] at q2 y
    have hle2 : m2 ≤ (L.drop (m + 1)).length := by rw [hm2]; exact stopN_le _ _
    rw [List.length_drop] at hle2
    rw [show ((a + m : Nat) : Int) + 1 = ((a + m + 1 : Nat) : Int) by omega]
    rw [show ((a + m + 1 : Nat) : Int) + (m2 : Nat) = ((a + m + 1 + m2 : Nat) : Int) by omega] at q2
    refine PCalls.use (q2) ?_; simp only [wk,if_true,if_false,forall_const,implies_true,ne_eq,eq_self,Nat.reduceEqDiff,Nat.reduceAdd,Nat.reduceMul,Nat.reduceSub,Nat.reduceLeDiff,Nat.reduceLT,Int.reduceEq,Int.reduceLT,Int.reduceLE,Int.reduceAdd,Int.reduceSub,Int.reduceMul,Int.reduceNeg,Int.reduceNe,reduceCtorEq,Int.reduceToNat,↓reduceIte]
    refine ⟨⟨by omega, by omega, by omega⟩, ?_⟩
    rw [y]
    have hw2 : s.extract (a + m + 1) (a + m + 1 + m2) = ba ((L.drop (m + 1)).take m2) := by rw [ext_ba, hd2]
    rw [Int.toNat_natCast, Int.toNat_natCast, hw2]
    rw [show (a + m + 1 + m2 : Nat) = a + (m + 1 + m2) by omega]
    exact ⟨Nat.le_refl _, rfl⟩
  all_goals (refine PCalls.use qk ?_; simp only [wk,if_true,if_false,forall_const,implies_true,ne_eq,eq_self,Nat.reduceEqDiff,Nat.reduceAdd,Nat.reduceMul,Nat.reduceSub,Nat.reduceLeDiff,Nat.reduceLT,Int.reduceEq,Int.reduceLT,Int.reduceLE,Int.reduceAdd,Int.reduceSub,Int.reduceMul,Int.reduceNeg,Int.reduceNe,reduceCtorEq,Int.reduceToNat,↓reduceIte])
  all_goals (
    rw [no (by
      first
        | (intro hh; exact h3 (by have := (hcol.1 hh.2).2; rw [Int.toNat_natCast]; omega))
        | (intro hh; exact h2 (by have := (hcol.1 hh.2).1; omega))
        | (intro hh; exact hh.1 h1))]
    refine ⟨fun hk => ?_, fun hk => ?_⟩
    · rw [if_pos hk]; exact ⟨Nat.le_refl _, rfl⟩
    · rw [if_neg (fun h => h hk)]; exact ⟨Nat.le_refl _, rfl⟩)
end Go.Proofs.Ytmbijfcjfhdnjaa

/- The program's sign is the token at a place: plain laws. -/
namespace Go.Proofs.Ytmbijfcjfhdnjaa
set_option linter.unusedSimpArgs false
set_option linter.unusedVariables false
open Go.RowKit Go.Lib

theorem dec_val (s : ByteArray) (p : Nat) : (Utf8.decode s p).1 ≤ 1114111 ∧ (128 ≤ (Utf8.decode s p).1 → Utf8.valid ((Utf8.decode s p).1 : Nat) = true) := by
  have e : Utf8.runeError ≤ 1114111 ∧ (128 ≤ Utf8.runeError → Utf8.valid (Utf8.runeError : Nat) = true) := by decide
  have hb : ∀ k, (s.get! k).toNat < 256 := fun k => (s.get! k).toNat_lt
  simp only [Utf8.decode]
  split
  · exact ⟨by simp only; omega, fun h => by simp only at h; omega⟩
  · split
    · next c =>
      split
      · have := hb (p + 0)
        refine ⟨by simp only; omega, fun _ => ?_⟩
        unfold Utf8.valid
        simp only [Bool.or_eq_true, Bool.and_eq_true, decide_eq_true_eq]
        left; omega
      · exact e
    · split
      · split
        · next c =>
          simp only [Bool.and_eq_true, decide_eq_true_eq] at c
          refine ⟨?_, fun _ => c.2⟩
          have := c.2
          unfold Utf8.valid at this
          simp only [Bool.or_eq_true, Bool.and_eq_true, decide_eq_true_eq] at this
          simp only; omega
        · exact e
      · split
        · split
          · next c =>
            simp only [Bool.and_eq_true, decide_eq_true_eq] at c
            refine ⟨?_, fun _ => c.2⟩
            have := c.2
            unfold Utf8.valid at this
            simp only [Bool.or_eq_true, Bool.and_eq_true, decide_eq_true_eq] at this
            simp only; omega
          · exact e
        · exact e
/-- a text of names' bytes, and a colon behind it -/
theorem colon_iff {p L : List UInt8} (hp : ∀ b ∈ p, innI b.toNat = true) : L.take (p.length + 1) = p ++ [58] ↔ (L.take (stopN innI L) = p ∧ colonL (L.drop (stopN innI L)) = true) := by
  constructor
  · intro h
    have e : L = p ++ 58 :: L.drop (p.length + 1) := by
      have := (List.take_append_drop (p.length + 1) L).symm
      rw [h] at this
      simpa using this
    have hs : stopN innI L = p.length := by
      rw [e]
      unfold stopN
      refine tw_len (by simp) (fun b hb => ?_) (fun h => ?_)
      · rw [List.take_left] at hb; exact hp b hb
      · rw [List.getElem_append_right (Nat.le_refl _)]; simp; decide
    rw [hs, e]
    simp [colonL]
  · rintro ⟨h1, h2⟩
    have e := (List.take_append_drop (stopN innI L) L).symm
    rw [h1] at e
    obtain ⟨r, hr⟩ : ∃ r, L.drop (stopN innI L) = 58 :: r := by
      cases hd : L.drop (stopN innI L) with
      | nil => rw [hd] at h2; cases h2
      | cons c r =>
        rw [hd] at h2
        have : c = 58 := by
          apply UInt8.toNat_inj.1; simpa [colonL] using h2
        exact ⟨r, by rw [this]⟩
    rw [hr] at e
    rw [e]; simp [List.take_append]
    exact List.take_of_length_le (by omega)
theorem beg_key {L : List UInt8} {k : Int} (p : List UInt8) (hk : preW k = ba (p ++ [58])) (hp : ∀ b ∈ p, innI b.toNat = true) : begL (preW k) L = true ↔ (ba (L.take (stopN innI L)) = ba p ∧ colonL (L.drop (stopN innI L)) = true) := by
  unfold begL
  rw [hk, decide_eq_true_eq, ba_list, ba_len2, List.length_append, List.length_singleton, colon_iff hp, ba_inj]
theorem kind_name (L : List UInt8) : kindL L = if aheW (ba (L.take (stopN innI L))) ≠ 0 ∧ colonL (L.drop (stopN innI L)) = true then aheW (ba (L.take (stopN innI L))) else 0 := by
  have b1 := beg_key (L := L) (k := 1) [107, 101, 121] rfl (by decide)
  have b2 := beg_key (L := L) (k := 2) [99, 104, 97, 110] rfl (by decide)
  have b4 := beg_key (L := L) (k := 4) [103, 114, 111, 117, 112] rfl (by decide)
  have b5 := beg_key (L := L) (k := 5) [114, 111, 108, 101] rfl (by decide)
  unfold kindL aheW
  simp only [b1, b2, b4, b5]
  by_cases hc : colonL (L.drop (stopN innI L)) = true
  · simp only [hc, and_true]
    show _ = _
    simp only [ba, List.toArray]
    by_cases h1 : ba (L.take (stopN innI L)) = ⟨#[107, 101, 121]⟩
    · simp_all [ba]
    · by_cases h2 : ba (L.take (stopN innI L)) = ⟨#[99, 104, 97, 110]⟩
      · simp_all [ba]
      · by_cases h4 : ba (L.take (stopN innI L)) = ⟨#[103, 114, 111, 117, 112]⟩
        · simp_all [ba]
        · by_cases h5 : ba (L.take (stopN innI L)) = ⟨#[114, 111, 108, 101]⟩
          · simp_all [ba]
          · simp_all [ba]
  · simp [hc]
/-- a kind stands ahead: it is one of four; its text is as long as the name and the colon -/
theorem ahe_len (w : ByteArray) (h : aheW w ≠ 0) : aheW w ∈ kinds ∧ (preW (aheW w)).size = w.size + 1 := by
  unfold aheW at h ⊢
  split
  · next e => rw [e]; decide
  · split
    · next e => rw [e]; decide
    · split
      · next e => rw [e]; decide
      · split
        · next e => rw [e]; decide
        · next h1 h2 h3 h4 => simp [h1, h2, h3, h4] at h
theorem may_stop (L : List UInt8) : mayN (ba (L.take (stopN innI L))) = true ↔ (lttI (L.headD 0).toNat = true ∧ stopN innI L ≤ 24) := by
  have hle := stopN_le innI L
  unfold mayN mayL
  rw [ba_list]
  simp only [Bool.and_eq_true, decide_eq_true_eq, List.length_take]
  cases L with
  | nil => simp [stopN, lttI]
  | cons b r =>
    by_cases hb : innI b.toNat = true
    · have h1 : 1 ≤ stopN innI (b :: r) := by rw [stopN_cons hb]; omega
      obtain ⟨m, hm⟩ : ∃ m, stopN innI (b :: r) = m + 1 := ⟨stopN innI (b :: r) - 1, by omega⟩
      have hall : ((b :: r).take (stopN innI (b :: r))).all (fun b => innI b.toNat) = true := by
        rw [List.all_eq_true]
        intro c hc
        obtain ⟨i, hi, rfl⟩ := List.mem_iff_getElem.1 hc
        rw [List.length_take] at hi
        rw [List.getElem_take]
        exact stopN_at (by omega) (by omega)
      rw [hall, hm]
      simp only [List.take_succ_cons, List.headD_cons]
      rw [hm] at hle
      constructor
      · rintro ⟨h1, h2, h3, h4⟩; exact ⟨h3, by omega⟩
      · rintro ⟨h1, h2⟩; exact ⟨by omega, by omega, h1, trivial⟩
    · have hz := stopN_zero (q := innI) (r := r) (b := b) (by simpa using hb)
      have hl : lttI b.toNat = false := by
        simp only [innI, Bool.or_eq_true, not_or] at hb
        simpa using hb.1.1.1
      rw [hz]; simp [hl]
theorem kind_nl {b : UInt8} {r : List UInt8} (h : lttI b.toNat = false) : kindL (b :: r) = 0 := by
  rw [kind_name, if_neg]
  rintro ⟨h1, -⟩
  apply h1
  have e : ∀ (c : UInt8) (p : List UInt8), lttI c.toNat = true → ba ((b :: r).take (stopN innI (b :: r))) ≠ ba (c :: p) := fun c p hc h2 => by
    rw [ba_inj] at h2
    have h3 : b = c := by
      cases hm : stopN innI (b :: r) with
      | zero => rw [hm] at h2; simp at h2
      | succ m => rw [hm, List.take_succ_cons] at h2; exact (List.cons.inj h2).1
    rw [h3] at h; rw [h] at hc; cases hc
  have k1 : ¬ ba ((b :: r).take (stopN innI (b :: r))) = ⟨#[107, 101, 121]⟩ := e 107 [101, 121] (by decide)
  have k2 : ¬ ba ((b :: r).take (stopN innI (b :: r))) = ⟨#[99, 104, 97, 110]⟩ := e 99 [104, 97, 110] (by decide)
  have k4 : ¬ ba ((b :: r).take (stopN innI (b :: r))) = ⟨#[103, 114, 111, 117, 112]⟩ := e 103 [114, 111, 117, 112] (by decide)
  have k5 : ¬ ba ((b :: r).take (stopN innI (b :: r))) = ⟨#[114, 111, 108, 101]⟩ := e 114 [111, 108, 101] (by decide)
  unfold aheW
  rw [if_neg k1, if_neg k2, if_neg k4, if_neg k5]
theorem sign_nl {b : UInt8} {r : List UInt8} (h : lttI b.toNat = false) : signL (b :: r) = plainL (b :: r) := by
  unfold signL; rw [if_pos (kind_nl h)]
/-- what is said of a word -/
def goodT (x : Sig) (l : List UInt8) : Bool := decide (wordT x.1 x.2.1 x.2.2.1 ≠ ⟨#[]⟩) && fineL (l.drop x.2.2.2)
theorem ba_app_ne {o : Int} {w : ByteArray} (h : o ∈ kinds) : preW o ++ w ≠ ⟨#[]⟩ := by
  intro e
  have := congrArg ByteArray.size e
  rw [ByteArray.size_append] at this
  have h2 := (pre_ok h).1
  have h3 : (⟨#[]⟩ : ByteArray).size = 0 := rfl
  omega
theorem atomW_kind {o : Int} {w : ByteArray} (h : o ∈ kinds) : atomW o w ≠ ⟨#[]⟩ ↔ mayN w = true := by
  have h2 : o = 1 ∨ o = 2 ∨ o = 4 ∨ o = 5 := by simpa [kinds] using h
  have h0 := kinds_nz h
  unfold atomW
  rw [if_neg h0]
  by_cases hm : mayN w = true
  · rw [if_pos hm, if_pos h2]; exact ⟨fun _ => hm, fun _ => ba_app_ne h⟩
  · rw [if_neg hm]; exact ⟨fun h => absurd rfl h, fun h => absurd h hm⟩
theorem name_some (L : List UInt8) : nameL L = if lttI (L.headD 0).toNat = true ∧ stopN innI L ≤ 24 ∧ fineL (L.drop (stopN innI L)) = true then some (stopN innI L) else none := by
  cases L with
  | nil => rfl
  | cons b r => rfl
/-- where a letter stands -/
theorem sign_letter {b : UInt8} {r : List UInt8} (h : lttI b.toNat = true) : signL (b :: r) = if goodT (pnameL (b :: r)) (b :: r) = true then some (pnameL (b :: r)) else none := by
  obtain ⟨L, hL⟩ : ∃ L, L = b :: r := ⟨_, rfl⟩
  have hhd : lttI (L.headD 0).toNat = true := by rw [hL]; exact h
  have hin : innI b.toNat = true := by simp [innI, h]
  have h1 : 1 ≤ stopN innI L := by rw [hL, stopN_cons hin]; omega
  have hle := stopN_le innI L
  have hpl : plainL L = match nameL L with
      | none => none
      | some n => if keyW (ba (L.take n)) = 0 then some (1, ba (L.take n), 3, n) else some (keyW (ba (L.take n)), ba [], 0, n) := by
    rw [hL]; simp only [plainL]; rw [if_pos h]; try rfl
  rw [← hL]
  have hwl : (ba (L.take (stopN innI L))).size = stopN innI L := by rw [ba_len2, List.length_take]; omega
  unfold signL
  rw [kind_name]
  by_cases hc : aheW (ba (L.take (stopN innI L))) ≠ 0 ∧ colonL (L.drop (stopN innI L)) = true
  · obtain ⟨a1, a2⟩ := ahe_len _ hc.1
    rw [if_pos hc, if_neg hc.1]
    have hp : pnameL L = (1, ba ((L.drop (stopN innI L + 1)).take (stopN innI (L.drop (stopN innI L + 1)))), aheW (ba (L.take (stopN innI L))), stopN innI L + 1 + stopN innI (L.drop (stopN innI L + 1))) := by unfold pnameL; rw [if_pos hc]
    rw [hp]
    obtain ⟨k, hk⟩ : ∃ k, k = aheW (ba (L.take (stopN innI L))) := ⟨_, rfl⟩
    rw [← hk] at a1 a2 ⊢
    rw [hwl] at a2
    rw [a2]
    obtain ⟨M, hM⟩ : ∃ M, M = L.drop (stopN innI L + 1) := ⟨_, rfl⟩
    rw [← hM]
    unfold atomL goodT
    rw [name_some]
    have hat := atomW_kind (w := ba (M.take (stopN innI M))) a1
    rw [may_stop] at hat
    have hdr : L.drop (stopN innI L + 1 + stopN innI M) = M.drop (stopN innI M) := by rw [hM, List.drop_drop]
    simp only [hdr]
    have hw1 : wordT 1 (ba (M.take (stopN innI M))) k = atomW k (ba (M.take (stopN innI M))) := by unfold wordT; rw [if_pos rfl]
    rw [hw1]
    by_cases hg : lttI (M.headD 0).toNat = true ∧ stopN innI M ≤ 24 ∧ fineL (M.drop (stopN innI M)) = true
    · have h3 := hat.2 ⟨hg.1, hg.2.1⟩
      rw [if_pos hg]
      simp [h3, hg.2.2]
    · rw [if_neg hg]
      rw [if_neg]
      simp only [Bool.and_eq_true, decide_eq_true_eq]
      rintro ⟨g1, g2⟩
      have := hat.1 g1
      exact hg ⟨this.1, this.2, g2⟩
  · rw [if_neg hc, if_pos rfl, hpl]
    have hp : pnameL L = if keyW (ba (L.take (stopN innI L))) ≠ 0 then (keyW (ba (L.take (stopN innI L))), ba [], 0, stopN innI L) else (1, ba (L.take (stopN innI L)), 3, stopN innI L) := by unfold pnameL; rw [if_neg hc]
    rw [hp, name_some]
    by_cases hk : keyW (ba (L.take (stopN innI L))) = 0
    · rw [if_neg (show ¬ keyW (ba (L.take (stopN innI L))) ≠ 0 from fun h => h hk)]
      have hw : wordT 1 (ba (L.take (stopN innI L))) 3 ≠ ⟨#[]⟩ ↔ mayN (ba (L.take (stopN innI L))) = true := by
        unfold wordT atomW
        rw [if_pos rfl, if_neg (by decide)]
        by_cases hm : mayN (ba (L.take (stopN innI L))) = true
        · rw [if_pos hm, if_neg (by decide), if_pos ⟨rfl, hk⟩]
          refine ⟨fun _ => hm, fun _ e => ?_⟩
          rw [e] at hwl
          have h3 : (⟨#[]⟩ : ByteArray).size = 0 := rfl
          omega
        · rw [if_neg hm]; exact ⟨fun h => absurd rfl h, fun h => absurd h hm⟩
      rw [may_stop] at hw
      unfold goodT
      by_cases hg : lttI (L.headD 0).toNat = true ∧ stopN innI L ≤ 24 ∧ fineL (L.drop (stopN innI L)) = true
      · have h3 := hw.2 ⟨hg.1, hg.2.1⟩
        rw [if_pos hg]
        simp [h3, hg.2.2, hk]
      · rw [if_neg hg, if_neg]
        simp only [Bool.and_eq_true, decide_eq_true_eq]
        rintro ⟨g1, g2⟩
        have := hw.1 g1
        exact hg ⟨this.1, this.2, g2⟩
    · rw [if_pos (show keyW (ba (L.take (stopN innI L))) ≠ 0 from hk)]
      have hm24 : stopN innI L ≤ 24 := by
        unfold keyW at hk
        rw [← hwl]
        by_cases e1 : ba (L.take (stopN innI L)) = ⟨#[97, 110, 100]⟩
        · rw [e1]; decide
        · rw [if_neg e1] at hk
          by_cases e2 : ba (L.take (stopN innI L)) = ⟨#[102, 111, 114]⟩
          · rw [e2]; decide
          · rw [if_neg e2] at hk
            by_cases e3 : ba (L.take (stopN innI L)) = ⟨#[97, 115]⟩
            · rw [e3]; decide
            · rw [if_neg e3] at hk; exact absurd rfl hk
      have hw : wordT (keyW (ba (L.take (stopN innI L)))) (ba []) 0 ≠ ⟨#[]⟩ := by
        unfold keyW at hk ⊢
        split
        · decide
        · split
          · decide
          · split
            · decide
            · next e1 e2 e3 => rw [if_neg e1, if_neg e2, if_neg e3] at hk; exact absurd rfl hk
      unfold goodT
      by_cases hg : fineL (L.drop (stopN innI L)) = true
      · rw [if_pos ⟨hhd, hm24, hg⟩]
        simp [hw, hg, hk]
      · rw [if_neg (fun h => hg h.2.2), if_neg]
        simp only [Bool.and_eq_true, decide_eq_true_eq]
        exact fun h => hg h.2
end Go.Proofs.Ytmbijfcjfhdnjaa

/- The program's sign. -/
namespace Go.Proofs.Ytmbijfcjfhdnjaa
set_option linter.unusedSimpArgs false
set_option linter.unusedVariables false
open Go.RowKit Go.Lib

/-- the program's sign: token and place behind; nothing: zero -/
def psV (l : List UInt8) (a : Nat) : AV := match signL l with
  | some (k, w, o, n) => .tup [.agg [.int .i64 k, .str w, .int .i64 o, .int .i64 0], .int .i64 (a + n : Nat)]
  | none => .tup [.agg [.int .i64 0, .str ⟨#[]⟩, .int .i64 0, .int .i64 0], .int .i64 0]
theorem free_psV (l : List UInt8) (a : Nat) : free (psV l a) = true := by unfold psV; split <;> rfl
theorem sig_124 {b : UInt8} {r : List UInt8} (h : b.toNat = 124) : signL (b :: r) = some (4, ba [], 0, 1) := by
  have hl : lttI b.toNat = false := by rw [h]; rfl
  rw [sign_nl hl]; simp only [plainL]
  rw [if_neg (by simp [hl]), if_neg (by omega), if_pos h]
theorem sig_40 {b : UInt8} {r : List UInt8} (h : b.toNat = 40) : signL (b :: r) = some (6, ba [], 0, 1) := by
  have hl : lttI b.toNat = false := by rw [h]; rfl
  rw [sign_nl hl]; simp only [plainL]
  rw [if_neg (by simp [hl]), if_neg (by omega), if_neg (by omega), if_pos h]
theorem sig_41 {b : UInt8} {r : List UInt8} (h : b.toNat = 41) : signL (b :: r) = some (7, ba [], 0, 1) := by
  have hl : lttI b.toNat = false := by rw [h]; rfl
  rw [sign_nl hl]; simp only [plainL]
  rw [if_neg (by simp [hl]), if_neg (by omega), if_neg (by omega), if_neg (by omega), if_pos h]
theorem sig_sign {b : UInt8} {r : List UInt8} (h : sigB b.toNat = true) : signL (b :: r) = some (9, ba [b], 0, 1) := by
  have h2 : b.toNat = 61 ∨ b.toNat = 44 ∨ b.toNat = 59 ∨ b.toNat = 60 ∨ b.toNat = 62 ∨ b.toNat = 33 ∨ b.toNat = 63 ∨ b.toNat = 42 := by
    simpa [sigB, or_assoc] using h
  have hl : lttI b.toNat = false := by simp [lttI]; omega
  have hd : digI b.toNat = false := by simp [digI]; omega
  rw [sign_nl hl]; simp only [plainL]
  rw [if_neg (by simp [hl]), if_neg (by omega), if_neg (by omega), if_neg (by omega), if_neg (by omega), if_neg (by simp [hd]), if_pos h]
theorem good_d (r : List UInt8) {b : UInt8} : goodT (1, ⟨#[68]⟩, 0, 1) (b :: r) = fineL r := by
  have : wordT 1 ⟨#[68]⟩ 0 ≠ ⟨#[]⟩ := by decide
  unfold goodT
  simp [this]
theorem sig_d {b : UInt8} {r : List UInt8} (h : b.toNat = 68) : signL (b :: r) = if goodT (1, ⟨#[68]⟩, 0, 1) (b :: r) = true then some (1, ⟨#[68]⟩, 0, 1) else none := by
  have hl : lttI b.toNat = false := by rw [h]; rfl
  rw [sign_nl hl, good_d]; simp only [plainL]
  rw [if_neg (by simp [hl]), if_pos h]; rfl
theorem sig_dig {b : UInt8} {r : List UInt8} (h : digI b.toNat = true) : signL (b :: r) = if goodT (8, ba ((b :: r).take (stopN digI (b :: r))), 0, stopN digI (b :: r)) (b :: r) = true then some (8, ba ((b :: r).take (stopN digI (b :: r))), 0, stopN digI (b :: r)) else none := by
  have h2 : 48 ≤ b.toNat ∧ b.toNat ≤ 57 := by simp [digI] at h; omega
  have hl : lttI b.toNat = false := by simp [lttI]; omega
  obtain ⟨L, hL⟩ : ∃ L, L = b :: r := ⟨_, rfl⟩
  have hpl : plainL L = if numW (ba (L.take (stopN digI L))) = true ∧ fineL (L.drop (stopN digI L)) = true then some (8, ba (L.take (stopN digI L)), 0, stopN digI L) else none := by
    rw [hL]; simp only [plainL]
    rw [if_neg (by simp [hl]), if_neg (by omega), if_neg (by omega), if_neg (by omega), if_neg (by omega), if_pos h]
  rw [sign_nl hl, ← hL, hpl]
  have hg : goodT (8, ba (L.take (stopN digI L)), 0, stopN digI L) L = true ↔ numW (ba (L.take (stopN digI L))) = true ∧ fineL (L.drop (stopN digI L)) = true := by
    have hw : wordT 8 (ba (L.take (stopN digI L))) 0 = if numW (ba (L.take (stopN digI L))) = true then ba (L.take (stopN digI L)) else ⟨#[]⟩ := by
      unfold wordT; rw [if_neg (by decide), if_neg (by decide), if_pos rfl]
    unfold goodT
    simp only [Bool.and_eq_true, decide_eq_true_eq]
    rw [hw]
    by_cases hn : numW (ba (L.take (stopN digI L))) = true
    · rw [if_pos hn]
      have : ba (L.take (stopN digI L)) ≠ ⟨#[]⟩ := by
        intro e; rw [e] at hn; revert hn; decide
      simp [hn, this]
    · rw [if_neg hn]; simp [hn]
  simp only [hg]
theorem sig_else {b : UInt8} {r : List UInt8} (h1 : b.toNat ≠ 124) (h2 : b.toNat ≠ 40) (h3 : b.toNat ≠ 41) (h4 : sigB b.toNat = false) (h5 : b.toNat ≠ 68) (h6 : digI b.toNat = false) (h7 : lttI b.toNat = false) : signL (b :: r) = if goodT (0, ⟨#[]⟩, 0, 1) (b :: r) = true then some (0, ⟨#[]⟩, 0, 1) else none := by
  have hg : goodT (0, ⟨#[]⟩, 0, 1) (b :: r) = false := by
    have : ¬ wordT 0 ⟨#[]⟩ 0 ≠ ⟨#[]⟩ := by decide
    unfold goodT
    rw [decide_eq_false this]; rfl
  rw [hg, sign_nl h7]; simp only [plainL]
  rw [if_neg (by simp [h7]), if_neg h5, if_neg h1, if_neg h2, if_neg h3, if_neg (by simp [h6]), if_neg (by simp [h4])]; rfl
theorem pname_le (l : List UInt8) : (pnameL l).2.1.size ≤ l.length ∧ (pnameL l).2.2.2 ≤ l.length := by
  have h1 := stopN_le innI l
  have h2 := stopN_le innI (l.drop (stopN innI l + 1))
  rw [List.length_drop] at h2
  unfold pnameL
  split
  · next h =>
    have h3 : stopN innI l < l.length := by
      rcases Nat.lt_or_ge (stopN innI l) l.length with h3 | h3
      · exact h3
      · rw [List.drop_of_length_le h3] at h; exact absurd h.2 (by simp [colonL])
    simp only [ba_len2, List.length_take, List.length_drop]
    omega
  · split <;> simp [ba_len2] <;> omega
set_option maxRecDepth 100000 in
set_option maxHeartbeats 4000000 in
theorem p_psign (s : ByteArray) (a : Nat) (v : Int) (hs : s.size ≤ 1000000) (ha : a < s.size) (hv : v = (Utf8.decode s a).1) :
    PCalls Try.prog 34 [.str s, .int .i64 a, .int .i32 v] (psV (s.data.toList.drop a) a) := by
  have hl := len_size s
  have hal : a < s.data.toList.length := by omega
  have hd : s.data.toList.drop a = s.data.toList[a] :: s.data.toList.drop (a + 1) := List.drop_eq_getElem_cons hal
  obtain ⟨b, hb⟩ : ∃ b, b = s.data.toList[a] := ⟨_, rfl⟩
  obtain ⟨r, hr⟩ : ∃ r, r = s.data.toList.drop (a + 1) := ⟨_, rfl⟩
  have hdv := dec_val s a
  have hlo : b.toNat < 128 → v = b.toNat := fun h => by rw [hv, dec_lt hal (by rw [← hb]; exact h), hb]
  have hhi : ¬ b.toNat < 128 → 128 ≤ v := fun h => by have := (dec_ge hal (by rw [← hb]; exact h)).1; rw [hv]; omega
  have qc := p_containsRune v (by omega) (by omega) (fun h => by rw [hv]; exact hdv.2 (by omega))
  have qd := p_digit v
  have ql := p_letter v
  have qs := p_stop (f := 55) p_digit hi_dig s a hs (by omega)
  have qn := p_pname s a hs ha
  rw [← hb, ← hr] at hd
  obtain ⟨L, hL⟩ : ∃ L, L = b :: r := ⟨_, rfl⟩
  rw [← hL] at hd
  have hLl : L.length = s.size - a := by rw [← hd, List.length_drop]; omega
  rw [hd] at qs qn ⊢
  have hch : ∀ q : Int → Bool, (∀ r, 128 ≤ r → q r = q 128) → q v = q b.toNat := fun q hi => by
    by_cases h : b.toNat < 128
    · rw [hlo h]
    · rw [hi v (hhi h), hi b.toNat (by omega)]
  rw [hch _ hi_dig] at qd
  rw [hch _ hi_ltt] at ql
  refine pcalls_of rfl (free_psV _ _) (acalls_of mixed J_token_sign_ok (Nat.le_of_ble_eq_true rfl) ?_); simp only [J_token_sign, wk,if_true,if_false,forall_const,implies_true,ne_eq,eq_self,Nat.reduceEqDiff,Nat.reduceAdd,Nat.reduceMul,Nat.reduceSub,Nat.reduceLeDiff,Nat.reduceLT,Int.reduceEq,Int.reduceLT,Int.reduceLE,Int.reduceAdd,Int.reduceSub,Int.reduceMul,Int.reduceNeg,Int.reduceNe,reduceCtorEq,Int.reduceToNat,↓reduceIte]
  refine ⟨inR_of (by omega) (by omega), ?_⟩
  have lo : ∀ n : Nat, n < 128 → v = n → b.toNat = n := fun n hn e => by
    by_cases h : b.toNat < 128
    · have := hlo h; omega
    · have := hhi h; omega
  refine ⟨fun e => ?_, fun e1 => ⟨fun e => ?_, fun e2 => ⟨fun e => ?_, fun e3 => ?_⟩⟩⟩
  · unfold psV; rw [hL, sig_124 (lo 124 (by omega) e)]; exact ⟨Nat.le_refl _, rfl⟩
  · unfold psV; rw [hL, sig_40 (lo 40 (by omega) e)]; exact ⟨Nat.le_refl _, rfl⟩
  · unfold psV; rw [hL, sig_41 (lo 41 (by omega) e)]; exact ⟨Nat.le_refl _, rfl⟩
  refine PCalls.use (qc) ?_; simp only [wk,if_true,if_false,forall_const,implies_true,ne_eq,eq_self,Nat.reduceEqDiff,Nat.reduceAdd,Nat.reduceMul,Nat.reduceSub,Nat.reduceLeDiff,Nat.reduceLT,Int.reduceEq,Int.reduceLT,Int.reduceLE,Int.reduceAdd,Int.reduceSub,Int.reduceMul,Int.reduceNeg,Int.reduceNe,reduceCtorEq,Int.reduceToNat,↓reduceIte]
  have hfree : ∀ n : Nat, a + n ≤ s.size → PCalls Try.prog 32 [.str s, .int .i64 (a + n : Nat), .fn 58 []] (.int .i64 ((a + n : Nat) + stopN freI (L.drop n))) := fun n hn => by
    have := p_stop (f := 58) p_free hi_fre s (a + n) hs hn
    rw [← List.drop_drop, hd] at this
    exact this
  have hfin : ∀ n : Nat, a + n ≤ s.size → ((stopN freI (L.drop n) = 0 ∧ a + n < s.size) ↔ fineL (L.drop n) = false) := fun n hn => by
    rcases Nat.lt_or_ge (a + n) s.size with h | h
    · have hnl : n < L.length := by omega
      rw [List.drop_eq_getElem_cons hnl]
      show _ ↔ freI (L[n]).toNat = false
      by_cases hf : freI (L[n]).toNat = true
      · rw [stopN_cons hf, hf]; simp
      · have hf2 : freI (L[n]).toNat = false := by simpa using hf
        rw [stopN_zero hf2]; simp [hf2, h]
    · rw [List.drop_of_length_le (by omega)]
      constructor
      · rintro ⟨-, h2⟩; omega
      · intro h2; cases h2
  have one : ∀ n : Nat, ((a : Int) + (n : Nat)) = ((a + n : Nat) : Int) := fun n => by omega
  have one1 : ((a : Int) + 1) = ((a + 1 : Nat) : Int) := by omega
  -- the four ways on
  have bad : ∀ k w o n, (signL L = if goodT (k, w, o, n) L = true then some (k, w, o, n) else none) → goodT (k, w, o, n) L = false → psV L a = .tup [.agg [.int .i64 0, .str ⟨#[]⟩, .int .i64 0, .int .i64 0], .int .i64 0] := fun k w o n h1 h2 => by
    unfold psV; rw [h1, h2]; rfl
  have good : ∀ k w o n, (signL L = if goodT (k, w, o, n) L = true then some (k, w, o, n) else none) → goodT (k, w, o, n) L = true → psV L a = .tup [.agg [.int .i64 k, .str w, .int .i64 o, .int .i64 0], .int .i64 (a + n : Nat)] := fun k w o n h1 h2 => by
    unfold psV; rw [h1, h2]; rfl
  refine ⟨fun e => ?_, fun e4 => ⟨fun e => ?_, fun e5 => ?_⟩⟩
  · have hb2 : sigB b.toNat = true ∧ v = b.toNat := by
      by_cases h : b.toNat < 128
      · rw [hlo h] at e; exact ⟨by simpa using e, hlo h⟩
      · have := hhi h
        simp [sigB] at e; omega
    have henc : Utf8.encode v = ba [b] := by
      have : b.toNat < 128 := by have := hb2.1; simp [sigB] at this; omega
      rw [hb2.2]
      unfold Utf8.encode Utf8.valid
      have e1 : (decide ((0 : Int) ≤ (b.toNat : Int)) && decide ((b.toNat : Int) < 55296)) = true := by simp; omega
      simp only [e1, Bool.true_or, if_true, Int.toNat_natCast, this]
      simp [ba]
    unfold psV; rw [hL, sig_sign hb2.1, henc]; exact ⟨Nat.le_refl _, rfl⟩
  · have hsig := sig_d (r := r) (lo 68 (by omega) e)
    rw [← hL] at hsig
    have qw := p_word 1 ⟨#[68]⟩ 0 0 (by decide)
    rw [one1]
    have qf := hfree (1) (by omega)
    have hf := hfin (1) (by omega)
    have hgd := good _ _ _ _ hsig
    have hbd := bad _ _ _ _ hsig
    simp only [goodT] at hgd hbd
    simp only [J_token_sign_j1, wk,if_true,if_false,forall_const,implies_true,ne_eq,eq_self,Nat.reduceEqDiff,Nat.reduceAdd,Nat.reduceMul,Nat.reduceSub,Nat.reduceLeDiff,Nat.reduceLT,Int.reduceEq,Int.reduceLT,Int.reduceLE,Int.reduceAdd,Int.reduceSub,Int.reduceMul,Int.reduceNeg,Int.reduceNe,reduceCtorEq,Int.reduceToNat,↓reduceIte]
    refine PCalls.use qw ?_; simp only [wk,if_true,if_false,forall_const,implies_true,ne_eq,eq_self,Nat.reduceEqDiff,Nat.reduceAdd,Nat.reduceMul,Nat.reduceSub,Nat.reduceLeDiff,Nat.reduceLT,Int.reduceEq,Int.reduceLT,Int.reduceLE,Int.reduceAdd,Int.reduceSub,Int.reduceMul,Int.reduceNeg,Int.reduceNe,reduceCtorEq,Int.reduceToNat,↓reduceIte]
    refine ⟨fun hne => ?_, fun he => ?_⟩
    · have hne2 := decide_eq_true hne
      simp only [hne2, Bool.true_and] at hgd hbd
      refine PCalls.use qf ?_; simp only [wk,if_true,if_false,forall_const,implies_true,ne_eq,eq_self,Nat.reduceEqDiff,Nat.reduceAdd,Nat.reduceMul,Nat.reduceSub,Nat.reduceLeDiff,Nat.reduceLT,Int.reduceEq,Int.reduceLT,Int.reduceLE,Int.reduceAdd,Int.reduceSub,Int.reduceMul,Int.reduceNeg,Int.reduceNe,reduceCtorEq,Int.reduceToNat,↓reduceIte]
      refine ⟨fun h1 => ⟨fun h2 => ?_, fun h2 => ?_⟩, fun h1 => ?_⟩
      · rw [hbd (hf.1 ⟨by omega, by omega⟩)]; exact ⟨Nat.le_refl _, rfl⟩
      · rw [hgd (by cases hx : fineL _ with | true => rfl | false => (exfalso; have := hf.2 hx; omega))]; exact ⟨Nat.le_refl _, rfl⟩
      · rw [hgd (by cases hx : fineL _ with | true => rfl | false => (exfalso; have := hf.2 hx; omega))]; exact ⟨Nat.le_refl _, rfl⟩
    · rw [hbd (by rw [he]; simp)]; exact ⟨Nat.le_refl _, rfl⟩
  · refine PCalls.use (qd) ?_; simp only [wk,if_true,if_false,forall_const,implies_true,ne_eq,eq_self,Nat.reduceEqDiff,Nat.reduceAdd,Nat.reduceMul,Nat.reduceSub,Nat.reduceLeDiff,Nat.reduceLT,Int.reduceEq,Int.reduceLT,Int.reduceLE,Int.reduceAdd,Int.reduceSub,Int.reduceMul,Int.reduceNeg,Int.reduceNe,reduceCtorEq,Int.reduceToNat,↓reduceIte]
    refine ⟨fun e => ?_, fun e6 => ?_⟩
    · have hsig := sig_dig (r := r) e
      rw [← hL] at hsig
      have hle := stopN_le digI L
      obtain ⟨n, hn⟩ : ∃ n, n = stopN digI L := ⟨_, rfl⟩
      rw [← hn] at qs hsig hle
      rw [one n] at qs
      refine PCalls.use (qs) ?_; simp only [wk,if_true,if_false,forall_const,implies_true,ne_eq,eq_self,Nat.reduceEqDiff,Nat.reduceAdd,Nat.reduceMul,Nat.reduceSub,Nat.reduceLeDiff,Nat.reduceLT,Int.reduceEq,Int.reduceLT,Int.reduceLE,Int.reduceAdd,Int.reduceSub,Int.reduceMul,Int.reduceNeg,Int.reduceNe,reduceCtorEq,Int.reduceToNat,↓reduceIte]
      have hw : s.extract a (a + n) = ba (L.take n) := by rw [ext_ba, hd]
      refine ⟨⟨by omega, by omega, by omega⟩, ?_⟩
      rw [Int.toNat_natCast, Int.toNat_natCast, hw]
      have qw := p_word 8 (ba (L.take n)) 0 0 (by rw [ba_len2, List.length_take]; omega)
      have qf := hfree (n) (by omega)
      have hf := hfin (n) (by omega)
      have hgd := good _ _ _ _ hsig
      have hbd := bad _ _ _ _ hsig
      simp only [goodT] at hgd hbd
      simp only [J_token_sign_j1, wk,if_true,if_false,forall_const,implies_true,ne_eq,eq_self,Nat.reduceEqDiff,Nat.reduceAdd,Nat.reduceMul,Nat.reduceSub,Nat.reduceLeDiff,Nat.reduceLT,Int.reduceEq,Int.reduceLT,Int.reduceLE,Int.reduceAdd,Int.reduceSub,Int.reduceMul,Int.reduceNeg,Int.reduceNe,reduceCtorEq,Int.reduceToNat,↓reduceIte]
      refine PCalls.use qw ?_; simp only [wk,if_true,if_false,forall_const,implies_true,ne_eq,eq_self,Nat.reduceEqDiff,Nat.reduceAdd,Nat.reduceMul,Nat.reduceSub,Nat.reduceLeDiff,Nat.reduceLT,Int.reduceEq,Int.reduceLT,Int.reduceLE,Int.reduceAdd,Int.reduceSub,Int.reduceMul,Int.reduceNeg,Int.reduceNe,reduceCtorEq,Int.reduceToNat,↓reduceIte]
      refine ⟨fun hne => ?_, fun he => ?_⟩
      · have hne2 := decide_eq_true hne
        simp only [hne2, Bool.true_and] at hgd hbd
        refine PCalls.use qf ?_; simp only [wk,if_true,if_false,forall_const,implies_true,ne_eq,eq_self,Nat.reduceEqDiff,Nat.reduceAdd,Nat.reduceMul,Nat.reduceSub,Nat.reduceLeDiff,Nat.reduceLT,Int.reduceEq,Int.reduceLT,Int.reduceLE,Int.reduceAdd,Int.reduceSub,Int.reduceMul,Int.reduceNeg,Int.reduceNe,reduceCtorEq,Int.reduceToNat,↓reduceIte]
        refine ⟨fun h1 => ⟨fun h2 => ?_, fun h2 => ?_⟩, fun h1 => ?_⟩
        · rw [hbd (hf.1 ⟨by omega, by omega⟩)]; exact ⟨Nat.le_refl _, rfl⟩
        · rw [hgd (by cases hx : fineL _ with | true => rfl | false => (exfalso; have := hf.2 hx; omega))]; exact ⟨Nat.le_refl _, rfl⟩
        · rw [hgd (by cases hx : fineL _ with | true => rfl | false => (exfalso; have := hf.2 hx; omega))]; exact ⟨Nat.le_refl _, rfl⟩
      · rw [hbd (by rw [he]; simp)]; exact ⟨Nat.le_refl _, rfl⟩
    · refine PCalls.use (ql) ?_; simp only [wk,if_true,if_false,forall_const,implies_true,ne_eq,eq_self,Nat.reduceEqDiff,Nat.reduceAdd,Nat.reduceMul,Nat.reduceSub,Nat.reduceLeDiff,Nat.reduceLT,Int.reduceEq,Int.reduceLT,Int.reduceLE,Int.reduceAdd,Int.reduceSub,Int.reduceMul,Int.reduceNeg,Int.reduceNe,reduceCtorEq,Int.reduceToNat,↓reduceIte]
      refine ⟨fun e => ?_, fun e7 => ?_⟩
      · have hsig := sign_letter (r := r) e
        rw [← hL] at hsig
        have hple := pname_le L
        obtain ⟨k, w, o, n, hpn⟩ : ∃ k w o n, pnameL L = (k, w, o, n) := ⟨_, _, _, _, rfl⟩
        rw [hpn] at hsig qn hple
        simp only at hple
        have qw := p_word k w o 0 (by omega)
        simp only [sigV] at qn
        refine PCalls.use (qn) ?_; simp only [wk,if_true,if_false,forall_const,implies_true,ne_eq,eq_self,Nat.reduceEqDiff,Nat.reduceAdd,Nat.reduceMul,Nat.reduceSub,Nat.reduceLeDiff,Nat.reduceLT,Int.reduceEq,Int.reduceLT,Int.reduceLE,Int.reduceAdd,Int.reduceSub,Int.reduceMul,Int.reduceNeg,Int.reduceNe,reduceCtorEq,Int.reduceToNat,↓reduceIte]
        have qf := hfree (n) (by omega)
        have hf := hfin (n) (by omega)
        have hgd := good _ _ _ _ hsig
        have hbd := bad _ _ _ _ hsig
        simp only [goodT] at hgd hbd
        simp only [J_token_sign_j1, wk,if_true,if_false,forall_const,implies_true,ne_eq,eq_self,Nat.reduceEqDiff,Nat.reduceAdd,Nat.reduceMul,Nat.reduceSub,Nat.reduceLeDiff,Nat.reduceLT,Int.reduceEq,Int.reduceLT,Int.reduceLE,Int.reduceAdd,Int.reduceSub,Int.reduceMul,Int.reduceNeg,Int.reduceNe,reduceCtorEq,Int.reduceToNat,↓reduceIte]
        refine PCalls.use qw ?_; simp only [wk,if_true,if_false,forall_const,implies_true,ne_eq,eq_self,Nat.reduceEqDiff,Nat.reduceAdd,Nat.reduceMul,Nat.reduceSub,Nat.reduceLeDiff,Nat.reduceLT,Int.reduceEq,Int.reduceLT,Int.reduceLE,Int.reduceAdd,Int.reduceSub,Int.reduceMul,Int.reduceNeg,Int.reduceNe,reduceCtorEq,Int.reduceToNat,↓reduceIte]
        refine ⟨fun hne => ?_, fun he => ?_⟩
        · have hne2 := decide_eq_true hne
          simp only [hne2, Bool.true_and] at hgd hbd
          refine PCalls.use qf ?_; simp only [wk,if_true,if_false,forall_const,implies_true,ne_eq,eq_self,Nat.reduceEqDiff,Nat.reduceAdd,Nat.reduceMul,Nat.reduceSub,Nat.reduceLeDiff,Nat.reduceLT,Int.reduceEq,Int.reduceLT,Int.reduceLE,Int.reduceAdd,Int.reduceSub,Int.reduceMul,Int.reduceNeg,Int.reduceNe,reduceCtorEq,Int.reduceToNat,↓reduceIte]
          refine ⟨fun h1 => ⟨fun h2 => ?_, fun h2 => ?_⟩, fun h1 => ?_⟩
          · rw [hbd (hf.1 ⟨by omega, by omega⟩)]; exact ⟨Nat.le_refl _, rfl⟩
          · rw [hgd (by cases hx : fineL _ with | true => rfl | false => (exfalso; have := hf.2 hx; omega))]; exact ⟨Nat.le_refl _, rfl⟩
          · rw [hgd (by cases hx : fineL _ with | true => rfl | false => (exfalso; have := hf.2 hx; omega))]; exact ⟨Nat.le_refl _, rfl⟩
        · rw [hbd (by rw [he]; simp)]; exact ⟨Nat.le_refl _, rfl⟩
      · have hsig := sig_else (b := b) (r := r) (by intro h; apply e1; have := hlo (by omega); omega) (by intro h; apply e2; have := hlo (by omega); omega) (by intro h; apply e3; have := hlo (by omega); omega) (by
          by_cases h : b.toNat < 128
          · rw [hlo h] at e4; simpa using e4
          · simp [sigB]; omega) (by intro h; apply e5; have := hlo (by omega); omega) (by simpa using e6) (by simpa using e7)
        rw [← hL] at hsig
        have qw := p_word 0 ⟨#[]⟩ 0 0 (by decide)
        rw [one1]
        have qf := hfree (1) (by omega)
        have hf := hfin (1) (by omega)
        have hgd := good _ _ _ _ hsig
        have hbd := bad _ _ _ _ hsig
        simp only [goodT] at hgd hbd
        simp only [J_token_sign_j1, wk,if_true,if_false,forall_const,implies_true,ne_eq,eq_self,Nat.reduceEqDiff,Nat.reduceAdd,Nat.reduceMul,Nat.reduceSub,Nat.reduceLeDiff,Nat.reduceLT,Int.reduceEq,Int.reduceLT,Int.reduceLE,Int.reduceAdd,Int.reduceSub,Int.reduceMul,Int.reduceNeg,Int.reduceNe,reduceCtorEq,Int.reduceToNat,↓reduceIte]
        refine PCalls.use qw ?_; simp only [wk,if_true,if_false,forall_const,implies_true,ne_eq,eq_self,Nat.reduceEqDiff,Nat.reduceAdd,Nat.reduceMul,Nat.reduceSub,Nat.reduceLeDiff,Nat.reduceLT,Int.reduceEq,Int.reduceLT,Int.reduceLE,Int.reduceAdd,Int.reduceSub,Int.reduceMul,Int.reduceNeg,Int.reduceNe,reduceCtorEq,Int.reduceToNat,↓reduceIte]
        refine ⟨fun hne => ?_, fun he => ?_⟩
        · have hne2 := decide_eq_true hne
          simp only [hne2, Bool.true_and] at hgd hbd
          refine PCalls.use qf ?_; simp only [wk,if_true,if_false,forall_const,implies_true,ne_eq,eq_self,Nat.reduceEqDiff,Nat.reduceAdd,Nat.reduceMul,Nat.reduceSub,Nat.reduceLeDiff,Nat.reduceLT,Int.reduceEq,Int.reduceLT,Int.reduceLE,Int.reduceAdd,Int.reduceSub,Int.reduceMul,Int.reduceNeg,Int.reduceNe,reduceCtorEq,Int.reduceToNat,↓reduceIte]
          refine ⟨fun h1 => ⟨fun h2 => ?_, fun h2 => ?_⟩, fun h1 => ?_⟩
          · rw [hbd (hf.1 ⟨by omega, by omega⟩)]; exact ⟨Nat.le_refl _, rfl⟩
          · rw [hgd (by cases hx : fineL _ with | true => rfl | false => (exfalso; have := hf.2 hx; omega))]; exact ⟨Nat.le_refl _, rfl⟩
          · rw [hgd (by cases hx : fineL _ with | true => rfl | false => (exfalso; have := hf.2 hx; omega))]; exact ⟨Nat.le_refl _, rfl⟩
        · rw [hbd (by rw [he]; simp)]; exact ⟨Nat.le_refl _, rfl⟩
end Go.Proofs.Ytmbijfcjfhdnjaa

/- The program's All. -/
namespace Go.Proofs.Ytmbijfcjfhdnjaa
set_option linter.unusedSimpArgs false
set_option linter.unusedVariables false
open Go.RowKit Go.Lib

/-- no rune stretches over a place -/
def noJ (s : ByteArray) (e : Nat) : Prop := ∀ p, p < e → p + (Utf8.decode s p).2 ≤ e
theorem noJ_atB {s : ByteArray} {e : Nat} (he : e ≤ s.size) (h : atB s e) : noJ s e := fun p hp => step_le h hp he
theorem noJ_size (s : ByteArray) : noJ s s.size := fun p hp => (step_one hp).2
theorem noJ_low {s : ByteArray} {e : Nat} (he : e < s.data.toList.length) (h : (s.data.toList[e]).toNat < 128) : noJ s e := fun p hp => by
  have hpl : p < s.data.toList.length := by omega
  by_cases h1 : (s.data.toList[p]).toNat < 128
  · rw [dec_lt hpl h1]; show p + 1 ≤ e; omega
  · obtain ⟨d1, d2, d3, d4⟩ := dec_ge hpl h1
    rcases Nat.lt_or_ge e (p + (Utf8.decode s p).2) with h2 | h2
    · have := d4 e he hp h2; omega
    · exact h2
theorem noJ_note {s : ByteArray} {i : Nat} (hi : i ≤ s.size) : i + stopN notI (s.data.toList.drop i) ≤ s.size ∧ noJ s (i + stopN notI (s.data.toList.drop i)) := by
  have hl := len_size s
  have hle := stopN_le notI (s.data.toList.drop i)
  have hll : (s.data.toList.drop i).length = s.data.toList.length - i := List.length_drop
  refine ⟨by omega, ?_⟩
  rcases Nat.lt_or_ge (stopN notI (s.data.toList.drop i)) (s.data.toList.drop i).length with h | h
  · have h2 := stopN_end h
    rw [List.getElem_drop] at h2
    refine noJ_low (by omega) ?_
    simp only [notI, decide_eq_false_iff_not, Decidable.not_not] at h2
    omega
  · have : i + stopN notI (s.data.toList.drop i) = s.size := by omega
    rw [this]; exact noJ_size s
theorem signL_kind {l : List UInt8} {k : Int} {w : ByteArray} {o : Int} {n : Nat} (h : signL l = some (k, w, o, n)) : k ≠ 0 := by
  unfold signL at h
  split at h
  · unfold plainL at h
    repeat' split at h
    all_goals first
      | (cases h; done)
      | (simp only [Option.some.injEq, Prod.mk.injEq] at h; obtain ⟨rfl, _⟩ := h; first | decide | assumption)
  · unfold atomL at h
    split at h
    · cases h
    · simp only [Option.some.injEq, Prod.mk.injEq] at h; obtain ⟨rfl, _⟩ := h; decide
set_option maxRecDepth 100000 in
set_option maxHeartbeats 4000000 in
theorem p_pall (s : ByteArray) (hs : s.size ≤ 1000000) : PCalls Try.prog 13 [.str s] (resV (allT s)) := by
  have hl := len_size s
  refine pcalls_of rfl (free_resV _) (ACalls.deep (acalls_of mixed J_token_All_ok (Nat.le_of_ble_eq_true rfl) ?_)); simp only [J_token_All, wk,if_true,if_false,forall_const,implies_true,ne_eq,eq_self,Nat.reduceEqDiff,Nat.reduceAdd,Nat.reduceMul,Nat.reduceSub,Nat.reduceLeDiff,Nat.reduceLT,Int.reduceEq,Int.reduceLT,Int.reduceLE,Int.reduceAdd,Int.reduceSub,Int.reduceMul,Int.reduceNeg,Int.reduceNe,reduceCtorEq,Int.reduceToNat,↓reduceIte]
  unfold allT
  refine ⟨fun hbig => ?_, fun hbig => ?_⟩
  · rw [if_pos (by omega)]
    simp only [rdpw, resV, vToks, toksC]
    rfl
  rw [if_neg (by omega)]
  refine W_loop (fun m fr h' => ∃ (p e : Nat) (acc : List Tok), p ≤ s.size ∧ e ≤ s.size ∧ m = s.size - p ∧ acc.length ≤ 1000 ∧ noJ s e ∧ scan s.data.toList 0 [] = scan (s.data.toList.drop (max p e)) (max p e) acc ∧ fr = [(0, .str s), (5, .lst (.own 28) acc.length (toksC acc)), (6, .int .i64 e), (15, .itr s p)]) s.size ⟨0, 0, [], by omega, by omega, by omega, by simp, fun p hp => by omega, rfl, rfl⟩ ?_
  rintro m fr h' ⟨p, e, acc, hp, he, rfl, hacc, hj, hscan, rfl⟩
  simp only [J_token_All_j2, wk,if_true,if_false,forall_const,implies_true,ne_eq,eq_self,Nat.reduceEqDiff,Nat.reduceAdd,Nat.reduceMul,Nat.reduceSub,Nat.reduceLeDiff,Nat.reduceLT,Int.reduceEq,Int.reduceLT,Int.reduceLE,Int.reduceAdd,Int.reduceSub,Int.reduceMul,Int.reduceNeg,Int.reduceNe,reduceCtorEq,Int.reduceToNat,↓reduceIte]
  refine ⟨fun hlt => ?_, fun hge => ?_⟩
  · have hpl : p < s.size := by omega
    have hal : p < s.data.toList.length := by omega
    have hd : s.data.toList.drop p = s.data.toList[p] :: s.data.toList.drop (p + 1) := List.drop_eq_getElem_cons hal
    obtain ⟨b, hb⟩ : ∃ b, b = s.data.toList[p] := ⟨_, rfl⟩
    rw [← hb] at hd
    have hone := step_one hpl
    have hlo : b.toNat < 128 → Utf8.decode s p = (b.toNat, 1) := fun h => by rw [dec_lt hal (by rw [← hb]; exact h), hb]
    have hhi : ¬ b.toNat < 128 → 128 ≤ (Utf8.decode s p).1 := fun h => (dec_ge hal (by rw [← hb]; exact h)).1
    have q := p_psign s p (Utf8.decode s p).1 hs hpl rfl
    rw [hd] at q
    obtain ⟨v, hv⟩ : ∃ v, v = (Utf8.decode s p).1 := ⟨_, rfl⟩
    obtain ⟨d, hdd⟩ : ∃ d, d = (Utf8.decode s p).2 := ⟨_, rfl⟩
    rw [← hv] at q hhi
    rw [← hdd] at hone
    simp only [← hv, ← hdd]
    have ch : ∀ n : Nat, n < 128 → ((v : Int) = n ↔ b.toNat = n) := fun n hn => by
      by_cases h : b.toNat < 128
      · have := congrArg Prod.fst (hlo h); simp only at this; omega
      · have := hhi h; omega
    have c32 := ch 32 (by omega)
    have c9 := ch 9 (by omega)
    have c10 := ch 10 (by omega)
    have c35 := ch 35 (by omega)
    have d1 : b.toNat < 128 → d = 1 := fun h => by have := congrArg Prod.snd (hlo h); simp only at this; omega
    -- on with the same tokens
    have on : ∀ e' : Nat, e' ≤ s.size → noJ s e' → scan s.data.toList 0 [] = scan (s.data.toList.drop (max (p + d) e')) (max (p + d) e') acc → ∃ m, m < s.size - p ∧ ∃ (p' e'' : Nat) (acc' : List Tok), p' ≤ s.size ∧ e'' ≤ s.size ∧ m = s.size - p' ∧ acc'.length ≤ 1000 ∧ noJ s e'' ∧ scan s.data.toList 0 [] = scan (s.data.toList.drop (max p' e'')) (max p' e'') acc' ∧ [(0, AV.str s), (5, .lst (.own 28) acc.length (toksC acc)), (6, .int .i64 e'), (15, .itr s (p + d))] = [(0, .str s), (5, .lst (.own 28) acc'.length (toksC acc')), (6, .int .i64 e''), (15, .itr s p')] := fun e' h1 h2 h3 =>
      ⟨s.size - (p + d), by omega, p + d, e', acc, by omega, h1, rfl, hacc, h2, h3, rfl⟩
    have far : p < e → scan s.data.toList 0 [] = scan (s.data.toList.drop (max (p + d) e)) (max (p + d) e) acc := fun h => by
      have := hj p h
      rw [← hdd] at this
      rw [hscan, show max (p + d) e = max p e by omega]
    have hsc : ¬ p < e → scan s.data.toList 0 [] = if blankB b = true then scan (s.data.toList.drop (p + 1)) (p + 1) acc
        else if b.toNat = 35 then scan (s.data.toList.drop (p + stopN notI (s.data.toList.drop p))) (p + stopN notI (s.data.toList.drop p)) acc
        else match signL (s.data.toList.drop p) with
          | none => ([], p, 2)
          | some (k, w, o, n) => if acc.length = 1000 then ([], p, 3) else scan (s.data.toList.drop (p + n)) (p + n) (acc ++ [⟨k, w, o, p⟩]) := fun h => by
      rw [hscan, show max p e = p by omega]
      rw [hd, scan_cons, ← hd]
      simp only [List.drop_drop]
      try rfl
    have blank : ¬ p < e → blankB b = true → scan s.data.toList 0 [] = scan (s.data.toList.drop (max (p + d) e)) (max (p + d) e) acc := fun h h2 => by
      have : d = 1 := d1 (by simp [blankB] at h2; omega)
      rw [hsc h, if_pos h2, show max (p + d) e = p + 1 by omega]
    have hblank : ∀ n : Nat, n = 32 ∨ n = 9 ∨ n = 10 → b.toNat = n → blankB b = true := fun n h h2 => by
      rw [← h2] at h
      rcases h with h | h | h <;> simp [blankB, h]
    refine ⟨fun nlt => ⟨fun n32 => ⟨fun n9 => ⟨fun ev => ?_, fun n10 => ⟨fun ev => ?_, fun n35 => ?_⟩⟩, fun ev => ?_⟩, fun ev => ?_⟩, fun hpe => ?_⟩
    · exact on e he hj (blank (by omega) (hblank 10 (by omega) (c10.1 ev)))
    · have h35 := c35.1 ev
      obtain ⟨k1, k2⟩ := noJ_note (s := s) (i := p) hp
      have q2 := p_stop (f := 33) p_not hi_not s p hs hp
      have h1 : 1 ≤ stopN notI (s.data.toList.drop p) := by rw [hd]; exact note_one h35
      obtain ⟨n, hn⟩ : ∃ n, n = stopN notI (s.data.toList.drop p) := ⟨_, rfl⟩
      rw [← hn] at k1 k2 q2 h1
      rw [show ((p : Int) + (n : Nat)) = ((p + n : Nat) : Int) by omega] at q2
      have hd1 := d1 (by omega)
      refine PCalls.use q2 ?_; simp only [wk,if_true,if_false,forall_const,implies_true,ne_eq,eq_self,Nat.reduceEqDiff,Nat.reduceAdd,Nat.reduceMul,Nat.reduceSub,Nat.reduceLeDiff,Nat.reduceLT,Int.reduceEq,Int.reduceLT,Int.reduceLE,Int.reduceAdd,Int.reduceSub,Int.reduceMul,Int.reduceNeg,Int.reduceNe,reduceCtorEq,Int.reduceToNat,↓reduceIte]
      refine on (p + n) k1 k2 ?_
      rw [hsc (by omega), if_neg (by simp [blankB, h35]), if_pos h35, ← hn, show max (p + d) (p + n) = p + n by omega]
    · have hsc2 := hsc (by omega)
      rw [if_neg (by simp [blankB]; omega), if_neg (by omega)] at hsc2
      unfold psV at q
      rw [hd] at hsc2
      cases hsg : signL (b :: s.data.toList.drop (p + 1)) with
      | none =>
        rw [hsg] at q hsc2
        refine PCalls.use (q) ?_; simp only [wk,if_true,if_false,forall_const,implies_true,ne_eq,eq_self,Nat.reduceEqDiff,Nat.reduceAdd,Nat.reduceMul,Nat.reduceSub,Nat.reduceLeDiff,Nat.reduceLT,Int.reduceEq,Int.reduceLT,Int.reduceLE,Int.reduceAdd,Int.reduceSub,Int.reduceMul,Int.reduceNeg,Int.reduceNe,reduceCtorEq,Int.reduceToNat,↓reduceIte]
        simp only [hsc2, resV, vToks, toksC, rdpw]
        rfl
      | some x =>
        obtain ⟨k, w, o, n⟩ := x
        rw [hsg] at q hsc2
        have hk := signL_kind hsg
        have hasc := signL_ascii hsg
        have hn1 := hasc.1
        rw [← hd] at hasc
        obtain ⟨k1, k2⟩ := ascii_at (by omega) hasc
        refine PCalls.use (q) ?_; simp only [wk,if_true,if_false,forall_const,implies_true,ne_eq,eq_self,Nat.reduceEqDiff,Nat.reduceAdd,Nat.reduceMul,Nat.reduceSub,Nat.reduceLeDiff,Nat.reduceLT,Int.reduceEq,Int.reduceLT,Int.reduceLE,Int.reduceAdd,Int.reduceSub,Int.reduceMul,Int.reduceNeg,Int.reduceNe,reduceCtorEq,Int.reduceToNat,↓reduceIte]
        have hjn := noJ_atB k1 k2
        have hdn := hjn p (by omega)
        rw [← hdd] at hdn
        refine ⟨fun h => absurd h hk, fun _ => ⟨fun h => ?_, fun h => ?_⟩⟩
        · simp only [hsc2, show acc.length = 1000 by omega, if_true, resV, vToks, toksC, rdpw]
          rfl
        · refine ⟨⟨by omega, by omega⟩, s.size - (p + d), by omega, p + d, p + n, acc ++ [⟨k, w, o, p⟩], by omega, k1, rfl, by simp; omega, hjn, ?_, ?_⟩
          · rw [hsc2]
            simp only
            rw [if_neg (by omega), show max (p + d) (p + n) = p + n by omega]
          · simp [toksC_sn]
    · exact on e he hj (blank (by omega) (hblank 9 (by omega) (c9.1 ev)))
    · exact on e he hj (blank (by omega) (hblank 32 (by omega) (c32.1 ev)))
    · exact on e he hj (far (by omega))
  · have hn : scan s.data.toList 0 [] = (acc, 0, 0) := by
      rw [hscan, List.drop_of_length_le (by omega)]
      rfl
    simp only [J_token_All_j1, hn, resV, vToks, rdpw, rdps_toks, wk,if_true,if_false,forall_const,implies_true,ne_eq,eq_self,Nat.reduceEqDiff,Nat.reduceAdd,Nat.reduceMul,Nat.reduceSub,Nat.reduceLeDiff,Nat.reduceLT,Int.reduceEq,Int.reduceLT,Int.reduceLE,Int.reduceAdd,Int.reduceSub,Int.reduceMul,Int.reduceNeg,Int.reduceNe,reduceCtorEq,Int.reduceToNat,↓reduceIte]
    rfl
end Go.Proofs.Ytmbijfcjfhdnjaa

/- A call that leaves all objects alone may be handed objects: for the call they stay as they are. What it tells is then known but for its lists. -/
namespace Go.Proofs.Ytmbijfcjfhdnjaa
set_option linter.unusedSimpArgs false
set_option linter.unusedVariables false
open Go.RowKit Go.Lib

mutual
/-- without what lists and places hold -/
def fgt : AV → AV
  | .lst _ _ _ => .opq
  | .fp _ => .opq
  | .fn _ _ => .opq
  | .ptr _ _ => .opq
  | .hs _ _ => .opq
  | .itr _ _ => .opq
  | .stk _ _ _ => .opq
  | .agg l => .agg (fgts l)
  | .tup l => .tup (fgts l)
  | a => a
def fgts : List AV → List AV
  | [] => []
  | a :: l => fgt a :: fgts l
end
theorem plain_fgt (a : AV) : plain (fgt a) = true := by
  cases a <;> simp [fgt, plain]
theorem plains_fgt : ∀ l : List AV, plains (fgts l)
  | [] => by intro a ha; simp [fgts] at ha
  | a :: l => by
    intro b hb
    simp only [fgts, List.mem_cons] at hb
    rcases hb with rfl | hb
    · exact plain_fgt a
    · exact plains_fgt l b hb
mutual
theorem Rep.fgt {g g' : Gh} : ∀ {v : Value} {a : AV}, Rep g v a → Rep g' v (fgt a)
  | _, _, .bool b => by simp only [Go.Proofs.Ytmbijfcjfhdnjaa.fgt]; exact .bool b
  | _, _, .int k n => by simp only [Go.Proofs.Ytmbijfcjfhdnjaa.fgt]; exact .int k n
  | _, _, .str s => by simp only [Go.Proofs.Ytmbijfcjfhdnjaa.fgt]; exact .str s
  | _, _, .nilp => by simp only [Go.Proofs.Ytmbijfcjfhdnjaa.fgt]; exact .nilp
  | _, _, .ptr id off b h => by simp only [Go.Proofs.Ytmbijfcjfhdnjaa.fgt]; exact .opq _ rfl (fun h => by cases h)
  | _, _, .fp b off vs l h hp hl => by simp only [Go.Proofs.Ytmbijfcjfhdnjaa.fgt]; exact .opq _ rfl (fun h => by cases h)
  | _, _, .lst b off n c f vs l h hp h1 h2 hl => by simp only [Go.Proofs.Ytmbijfcjfhdnjaa.fgt]; exact .opq _ rfl (fun h => by cases h)
  | _, _, .lst0 a c f h => by simp only [Go.Proofs.Ytmbijfcjfhdnjaa.fgt]; exact .opq _ rfl (fun h => by cases h)
  | _, _, .hs id b n c h h1 => by simp only [Go.Proofs.Ytmbijfcjfhdnjaa.fgt]; exact .opq _ rfl (fun h => by cases h)
  | _, _, .agg vs l h hp hl => by simp only [Go.Proofs.Ytmbijfcjfhdnjaa.fgt]; exact .agg vs _ h (plains_fgt l) (RepL.fgt hl)
  | _, _, .tup vs l hp hl => by simp only [Go.Proofs.Ytmbijfcjfhdnjaa.fgt]; exact .tup vs _ (plains_fgt l) (RepL.fgt hl)
  | _, _, .fn f vs l hp hl => by simp only [Go.Proofs.Ytmbijfcjfhdnjaa.fgt]; exact .opq _ rfl (fun h => by cases h)
  | _, _, .nilf => by simp only [Go.Proofs.Ytmbijfcjfhdnjaa.fgt]; exact .nilf
  | _, _, .opq v h h' => by simp only [Go.Proofs.Ytmbijfcjfhdnjaa.fgt]; exact .opq v h h'
  | _, _, .itr b s p => by simp only [Go.Proofs.Ytmbijfcjfhdnjaa.fgt]; exact .opq _ rfl (fun h => by cases h)
  | _, _, .stk a c e o l h1 h2 h3 => by simp only [Go.Proofs.Ytmbijfcjfhdnjaa.fgt]; exact .opq _ rfl (fun h => by cases h)
  | _, _, .raw a m c h1 h2 => by simp only [Go.Proofs.Ytmbijfcjfhdnjaa.fgt]; exact .raw a m c h1 h2
  | _, _, .rawp b i m c => by simp only [Go.Proofs.Ytmbijfcjfhdnjaa.fgt]; exact .rawp b i m c
theorem RepL.fgt {g g' : Gh} : ∀ {vs : List Value} {l : List AV}, RepL g vs l → RepL g' vs (fgts l)
  | _, _, .nil => by simp only [fgts]; exact .nil
  | _, _, .cons h hr => by simp only [fgts]; exact .cons (Rep.fgt h) (RepL.fgt hr)
end
/-- all objects are another's, and stay as they are -/
noncomputable def Gh.still (g : Gh) (h : Hp) (w : World) : Gh := { g.bare with C := (g.ice h w).C }
open Classical in
/-- what is known behind such a call -/
noncomputable def Gh.melt (g g1 : Gh) : Gh := { g with C := fun b o => if (∃ i, g.io i = some b) ∨ (∃ x, g.own b = some x) then g.C b o else g1.C b o }
section
variable {P : Program} {g : Gh} {h : Hp} {w : World}
theorem Sim.still (hs : Sim P g h w) : Sim P (g.still h w) [] w := by
  have hb := hs.bare
  refine ⟨fun b o u hu => ?_, (fun id s l hl => by simp at hl), hb.inj, hb.dom, hb.flt, hb.olt, hb.hole⟩
  simp only [Gh.still, Gh.ice] at hu
  split at hu
  · next u' hu' => simp only [Option.some.injEq] at hu; subst hu; exact hs.prot b o _ hu'
  · split at hu
    · simp only [Option.filter_eq_some_iff] at hu; exact hu
    · cases hu
theorem Sim.melt {g1 : Gh} {w1 : World} {h1 : Hp} (hs : Sim P g h w) (hev : Ev (g.still h w) w g1 w1) (hs1 : Sim P g1 h1 w1) : Sim P (g.melt g1) h w1 ∧ Ev g w (g.melt g1) w1 := by
  have hC : ∀ b o v, g.C b o = some v → g1.C b o = some v := fun b o v hc => hev.le.C b o v (ice_le hc)
  have hle : GLe g (g.melt g1) := ⟨fun b o v hc => by
    simp only [Gh.melt]
    split
    · exact hc
    · exact hC b o v hc, fun _ _ h => h⟩
  have hin : ∀ b, ((∃ i, g.io i = some b) ∨ (∃ x, g.own b = some x)) → ∀ o, (g.melt g1).C b o = g.C b o := fun b hb o => by
    simp only [Gh.melt]; rw [if_pos hb]
  refine ⟨⟨fun b o v hc => ?_, ?_, hs.inj, fun i b hi => ⟨(hs.dom i b hi).1, Nat.lt_of_lt_of_le (hs.dom i b hi).2 hev.size⟩, fun b hb => Nat.lt_of_lt_of_le (hs.flt b hb) hev.size, fun b x hx => Nat.lt_of_lt_of_le (hs.olt b x hx) hev.size, hs.hole⟩, ⟨hle, fun _ => .rfl, fun b hb => ?_, hev.os, hev.tape, hev.output, hev.size⟩⟩
  · simp only [Gh.melt] at hc
    split at hc
    · exact hs1.prot b o v (hC b o v hc)
    · exact hs1.prot b o v hc
  · intro id s l hl
    refine (hs.obj id s l hl).keep hle (fun b hb h8 h9 => ?_) (fun b i o1 o3 o4 => ?_)
    · obtain ⟨q1, _, _⟩ := hev.Fb b (.inr (.inl ⟨id, hb⟩))
      exact ⟨q1, hin b (.inl ⟨id, hb⟩), h8, h9⟩
    · obtain ⟨q1, _, _⟩ := hev.Fb b (.inr (.inr ⟨_, o1⟩))
      exact ⟨q1, o1, hin b (.inr ⟨_, o1⟩), o3, o4⟩
  · obtain ⟨q1, q2, _⟩ := hev.Fb b (.inl hb)
    refine ⟨q1, fun o => ?_, rfl, fun _ h => h⟩
    simp only [Gh.melt]
    split
    · rfl
    · next hn =>
      rw [q2 o]
      simp only [Gh.still, Gh.ice]
      cases hg : g.C b o with
      | some v => rfl
      | none =>
        simp only
        rw [if_neg]
        rintro ⟨id, s, l, k1, _⟩
        exact hn (.inl ⟨id, k1⟩)
/-- A call that leaves all objects alone, handed objects. -/
theorem PCalls.iced {f : FuncId} {args args' : List AV} {v : AV} (hp : PCalls P f args v) (h : Hp) (ha : fzs h args' = args) : ACalls P f args' h (fun a h' => a = fgt v ∧ h = h') := by
  obtain ⟨hfa, hfv, hent, hc⟩ := hp
  refine ⟨hent, fun g w vargs hs hns hr hpl => ?_⟩
  have hr1 := RepL.ice hs hr (by rw [ha]; exact hfa)
  rw [ha] at hr1
  have hpa : plains args := by rw [← ha]; exact plains_fz hpl
  refine (hc (g.still h w) w vargs hs.still (fun b k h => by cases h) (RepL.free (g := g.ice h w) (g' := g.still h w) (fun _ _ _ h => h) hr1 hfa) hpa).mono ?_
  rintro e w1 ⟨x, a, h1, g1, rfl, r1, r2, r3, r4, r5, rfl, rfl⟩
  obtain ⟨s1, s2⟩ := hs.melt r1 r2
  exact ⟨x, _, h, g.melt g1, rfl, s2, s1, hns, Rep.fgt r4, plain_fgt _, rfl, rfl⟩
end
theorem fgt_int (k : IntKind) (n : Int) : fgt (.int k n) = .int k n := by simp only [fgt]
theorem fgt_bool (b : Bool) : fgt (.bool b) = .bool b := by simp only [fgt]
theorem fgt_str (s : ByteArray) : fgt (.str s) = .str s := by simp only [fgt]
theorem fgt_tup (l : List AV) : fgt (.tup l) = .tup (fgts l) := by simp only [fgt]
theorem fgt_agg (l : List AV) : fgt (.agg l) = .agg (fgts l) := by simp only [fgt]
theorem fgt_lst (f : Fl) (n : Nat) (l : List AV) : fgt (.lst f n l) = .opq := by simp only [fgt]
theorem fgts_nil : fgts [] = [] := by simp only [fgts]
theorem fgts_cons (a : AV) (l : List AV) : fgts (a :: l) = fgt a :: fgts l := by simp only [fgts]
end Go.Proofs.Ytmbijfcjfhdnjaa
