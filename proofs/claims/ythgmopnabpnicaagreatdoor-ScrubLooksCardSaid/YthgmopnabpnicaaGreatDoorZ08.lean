import Derived.KernelRfl
import Derived.Test.YthgmopnabpnicaaGreatDoorProg
import Derived.Test.YthgmopnabpnicaaGreatDoorZ07
set_option linter.all false
namespace Go.Ab
open Go
/-! the lemmas of a reckoning, bundled -/
def SA0 := (And.intro (And.intro (And.intro (And.intro (And.intro @wpL_nil @wpL_cons) (And.intro @gL_tt (And.intro @gL_ff @xL_none))) (And.intro (And.intro @xL_some @oL_ff) (And.intro @oL_tt (And.intro @fL_some @cL_some)))) (And.intro (And.intro (And.intro @wpD_nil @wpD_cons) (And.intro @gD_tt (And.intro @gD_ff @xD_none))) (And.intro (And.intro @xD_some @oD_ff) (And.intro @oD_tt (And.intro @fD_some @cD_some))))) (And.intro (And.intro (And.intro (And.intro @frowE_row @frowE_frow) (And.intro @frz1_row (And.intro @fboxE_box @fboxE_fbox))) (And.intro (And.intro @frz1_ptr @mO_some) (And.intro @frzM_nil (And.intro @frzM_cons @aggO_some)))) (And.intro (And.intro (And.intro @tupO_some @fnO_some) (And.intro @frz2_agg (And.intro @frz2_fn @frz2_row))) (And.intro (And.intro @frz2_ptr @frzX_tup) (And.intro @frzX_agg (And.intro @frzX_fn @frzX_row))))))
def SA1 := (And.intro (And.intro (And.intro (And.intro (And.intro @frzX_ptr @frz1_bool) (And.intro @frz1_int (And.intro @frz1_str @frz1_sl))) (And.intro (And.intro @frz1_nils @frz1_nili) (And.intro @frz1_nilp (And.intro @frz1_cp @frz2_bool)))) (And.intro (And.intro (And.intro @frz2_int @frz2_str) (And.intro @frz2_sl (And.intro @frz2_nils @frz2_nili))) (And.intro (And.intro @frzX_sl @frzX_nils) (And.intro @rd_move (And.intro @rd_assign @rd_pick))))) (And.intro (And.intro (And.intro (And.intro @rd_alloc @rd_box) (And.intro @rd_build (And.intro @rd_buildSlice @rd_load))) (And.intro (And.intro @rd_store @rd_nilCheck) (And.intro @rd_binOp (And.intro @rd_unOp @rd_convert)))) (And.intro (And.intro (And.intro @rd_makeFunc @rd_makeSlice) (And.intro @rd_slice (And.intro @rd_fieldAddr @rd_field))) (And.intro (And.intro @rd_indexAddr @rd_index) (And.intro @rd_extract (And.intro @rd_len @rd_append))))))
def SA2 := (And.intro (And.intro (And.intro (And.intro (And.intro @rd_copy @rd_min) (And.intro @rd_max (And.intro @go_skip @go_label))) (And.intro (And.intro @go_region @go_drawn) (And.intro @go_seq (And.intro @go_cond @go_block)))) (And.intro (And.intro (And.intro @go_ret @go_exit) (And.intro @go_loop (And.intro @norm_nil @norm_seq))) (And.intro (And.intro @norm_blk @norm_fin) (And.intro @exit_nil (And.intro @exit_seq @exit_fin))))) (And.intro (And.intro (And.intro (And.intro @exit_blk @condG_t) (And.intro @condG_f (And.intro @bodyQ_ret @bodyQ_norm))) (And.intro (And.intro @rcons_some @ares_nil) (And.intro @ares_tmp (And.intro @fstO_some @ares_cell)))) (And.intro (And.intro (And.intro @mk_1 @mk_0) (And.intro @mk_2 (And.intro @resK_some @app_nil))) (And.intro (And.intro @app_h @whs_nil) (And.intro @whs_h (And.intro @hwB_nil @hwB_h))))))
def SA3 := (And.intro (And.intro (And.intro (And.intro (And.intro @zf_nil @zf_none) (And.intro @zf_some (And.intro @bO_some @gO_true))) (And.intro (And.intro @oV_some @aguard_none) (And.intro @aguard_some (And.intro @guardV_bool @guardV_skip)))) (And.intro (And.intro (And.intro @E_move @E_assign) (And.intro @E_pick (And.intro @pick_tt @pick_ff))) (And.intro (And.intro @pick_bool @pick_int) (And.intro @pick_str (And.intro @E_alloc @E_box))))) (And.intro (And.intro (And.intro (And.intro @E_build @E_buildSlice) (And.intro @E_load (And.intro @load_ptr @load_rptr))) (And.intro (And.intro @load_cp @load_gp) (And.intro @boxE_box (And.intro @boxE_fbox @rowE_row)))) (And.intro (And.intro (And.intro @rowE_frow @mkV_t) (And.intro @mkV_f (And.intro @E_store @store_ptr))) (And.intro (And.intro @sboxE_box @store_rptr) (And.intro @srowE_row (And.intro @E_nilCheck @E_binOp))))))
def SA4 := (And.intro (And.intro (And.intro (And.intro (And.intro @E_unOp @E_convert) (And.intro @E_makeFunc (And.intro @E_makeSlice @E_slice0))) (And.intro (And.intro @E_sliceL @E_sliceH) (And.intro @E_sliceLH (And.intro @E_fieldAddr @E_field)))) (And.intro (And.intro (And.intro @E_indexAddr @E_index) (And.intro @E_extract (And.intro @extE_tup @E_builtin))) (And.intro (And.intro @E_len @E_append) (And.intro @E_copy (And.intro @E_min @E_max))))) (And.intro (And.intro (And.intro (And.intro @acallee_eq @after_0) (And.intro @after_0n (And.intro @after_1 @after_1n))) (And.intro (And.intro @after_2 @after_3) (And.intro @after_4 (And.intro @put_s @put_n)))) (And.intro (And.intro (And.intro @ix_ptr @ix_rptr) (And.intro @ix_cp (And.intro @ix_gp @ix_sl))) (And.intro (And.intro @ix_row @ix_bsl) (And.intro @riE_row (And.intro @riE_frow @iv_str))))))
def SA5 := (And.intro (And.intro (And.intro (And.intro (And.intro @iv_agg @hi_none) (And.intro @lo_none (And.intro @sl_str @sl_sl))) (And.intro (And.intro @sl_row @sl_ptr) (And.intro @srE_row (And.intro @srE_frow @ct_nils)))) (And.intro (And.intro (And.intro @ct_sl @ct_row) (And.intro @ct_bsl (And.intro @contE_row @contE_frow))) (And.intro (And.intro @contB_box @contB_fbox) (And.intro @ad_str (And.intro @ad_nils @ad_sl))))) (And.intro (And.intro (And.intro (And.intro @ad_row @ad_bsl) (And.intro @ap_nils (And.intro @ap_row @apE_row))) (And.intro (And.intro @cv_int @ev_tmp) (And.intro @ev_const (And.intro @ev_func @ev_global)))) (And.intro (And.intro (And.intro @ofV_bool @ofV_int) (And.intro @ofV_str (And.intro @ofV_nilp @ofV_nils))) (And.intro (And.intro @ofV_nilf @ofV_nili) (And.intro @ofV_nilm (And.intro @upd_same @argT_0))))))
def SA6 := (And.intro (And.intro (And.intro (And.intro (And.intro @argT_1 @argT_2) (And.intro @argT_3 (And.intro @argT_4 @argT_5))) (And.intro (And.intro @alen_str @alen_nils) (And.intro @alen_sl (And.intro @alen_row @alen_bsl)))) (And.intro (And.intro (And.intro @alen_agg @isNilC_tmp) (And.intro @isNilC_global (And.intro @isNilC_func @isNilC_int))) (And.intro (And.intro @isNilC_bool @isNilC_str) (And.intro @isNilC_ptr (And.intro @isNilC_nf @isNilC_ni))))) (And.intro (And.intro (And.intro (And.intro @isNilC_sl @isNilC_map) (And.intro @abinN_f (And.intro @abinN_t @abinNil_n))) (And.intro (And.intro @abinNil_i @bT_int) (And.intro @bT_str (And.intro @bT_bool @bT_agg)))) (And.intro (And.intro (And.intro @bT_nilnil @bT_ifn) (And.intro @bT_nif (And.intro @bT_ptr @bT_cp))) (And.intro (And.intro @b_add @b_sub) (And.intro @b_mul (And.intro @b_and @b_or))))))
def SA7 := (And.intro (And.intro (And.intro (And.intro @b_xor @b_eql) (And.intro @b_neq (And.intro @b_lss @b_leq))) (And.intro (And.intro @b_gtr @b_geq) (And.intro @b_seq (And.intro @b_sne @b_slt)))) (And.intro (And.intro (And.intro @b_sgt @b_sle) (And.intro @b_sge (And.intro @b_beq @b_bne))) (And.intro (And.intro @eqOp_e (And.intro @eqOp_n @u_not)) (And.intro @u_neg (And.intro @u_xor @cells_agg)))))
def SC := (And.intro (And.intro (And.intro (And.intro (And.intro @List.map_cons.{0,0} @List.map_nil.{0,0}) (And.intro @List.append_nil.{0} (And.intro @List.nil_append.{0} @List.cons_append.{0}))) (And.intro (And.intro @List.length_cons.{0} @List.length_nil.{0}) (And.intro @List.all_cons.{0} (And.intro @List.all_nil.{0} @List.getElem?_cons_zero.{0})))) (And.intro (And.intro (And.intro @List.getElem?_cons_succ.{0} @List.getElem?_toArray.{0}) (And.intro @Option.bind_some.{0,0} (And.intro @Option.map_some.{0,0} @Bool.and_true))) (And.intro (And.intro @Bool.true_and @Bool.not_true) (And.intro @Bool.not_false (And.intro @Bool.false_or @Bool.or_false))))) (And.intro (And.intro (And.intro (And.intro @Bool.true_or @Bool.or_true) (And.intro @ne_eq.{1} (And.intro @not_false_eq_true @not_true_eq_false))) (And.intro (And.intro @if_true.{1} @if_false.{1}) (And.intro @and_true (And.intro @true_and @and_self)))) (And.intro (And.intro (And.intro @Nat.zero_add @Nat.add_zero) (And.intro @beq_self_eq_true.{0} (And.intro @beq_true @beq_false))) (And.intro (And.intro @Option.isSome_some.{0} @List.flatMap_cons.{0,0}) (And.intro @List.flatMap_nil.{0,0} (And.intro @List.contains_cons.{0} @List.contains_nil.{0}))))))
def SAll := (And.intro (And.intro (And.intro SA0 SA1) (And.intro SA2 SA3)) (And.intro (And.intro SA4 SA5) (And.intro SA6 (And.intro SA7 SC))))
end Go.Ab
namespace Go.Ab
open Go Go.Proofs
/-! the types of the seat's program, as its operations ask for them: written by gen_ty.py -/
theorem ty0 : tSize Tryz.prog 28 = some 11 := by kernel_rfl
theorem ty1 : tAgg Tryz.prog 28 = some true := by kernel_rfl
theorem ty2 : tZero Tryz.prog 28 = some [.nils, .nils, .nils, .nils, .nils, .nils, .nils, .nils, .nils, .nils, .int .i64 0] := by kernel_rfl
theorem ty3 : tBool Tryz.prog 31 = false := by kernel_rfl
theorem ty4 : tPtr Tryz.prog 31 = false := by kernel_rfl
theorem ty5 : tIface Tryz.prog 31 = false := by kernel_rfl
theorem ty6 : tInt Tryz.prog 5 = some .u8 := by kernel_rfl
theorem ty7 : tStr Tryz.prog 5 = false := by kernel_rfl
theorem ty8 : tSl Tryz.prog 5 = none := by kernel_rfl
theorem ty9 : tInt Tryz.prog 3 = some .i64 := by kernel_rfl
theorem ty10 : tStr Tryz.prog 3 = false := by kernel_rfl
theorem ty11 : tSl Tryz.prog 3 = none := by kernel_rfl
theorem ty12 : tZero Tryz.prog 25 = some [.nils, .nils] := by kernel_rfl
theorem ty13 : tPlaces Tryz.prog 25 = some [(0, 1), (1, 1)] := by kernel_rfl
theorem ty14 : tFld Tryz.prog 28 0 = some (0, 10, true) := by kernel_rfl
theorem ty15 : tArr Tryz.prog 26 = some (5, 2, true) := by kernel_rfl
theorem ty16 : tSize Tryz.prog 25 = some 2 := by kernel_rfl
theorem ty17 : tSl Tryz.prog 23 = some (3, 1, false) := by kernel_rfl
theorem ty18 : tZero Tryz.prog 3 = some [.int .i64 0] := by kernel_rfl
theorem ty19 : tBool Tryz.prog 3 = false := by kernel_rfl
theorem ty20 : tPtr Tryz.prog 3 = false := by kernel_rfl
theorem ty21 : tIface Tryz.prog 3 = false := by kernel_rfl
theorem ty22 : tAgg Tryz.prog 25 = some true := by kernel_rfl
theorem ty23 : tFld Tryz.prog 25 1 = some (1, 1, false) := by kernel_rfl
theorem ty24 : tSize Tryz.prog 23 = some 1 := by kernel_rfl
theorem ty25 : tBool Tryz.prog 9 = false := by kernel_rfl
theorem ty26 : tPtr Tryz.prog 9 = false := by kernel_rfl
theorem ty27 : tIface Tryz.prog 9 = false := by kernel_rfl
theorem ty28 : tPlaces Tryz.prog 28 = some [(0, 10), (10, 1)] := by kernel_rfl
theorem ty29 : tFld Tryz.prog 28 1 = some (10, 1, false) := by kernel_rfl
theorem ty30 : tSize Tryz.prog 3 = some 1 := by kernel_rfl
theorem ty31 : tAgg Tryz.prog 3 = some false := by kernel_rfl
theorem ty32 : tFld Tryz.prog 25 0 = some (0, 1, false) := by kernel_rfl
theorem ty33 : tSize Tryz.prog 22 = some 1 := by kernel_rfl
theorem ty34 : tAgg Tryz.prog 22 = some false := by kernel_rfl
theorem ty35 : tAgg Tryz.prog 23 = some false := by kernel_rfl
theorem ty36 : tSl Tryz.prog 22 = some (55, 4, true) := by kernel_rfl
theorem ty37 : tFld Tryz.prog 55 0 = some (0, 1, false) := by kernel_rfl
theorem ty38 : tSize Tryz.prog 9 = some 1 := by kernel_rfl
theorem ty39 : tAgg Tryz.prog 9 = some false := by kernel_rfl
theorem ty40 : tFld Tryz.prog 55 1 = some (1, 1, false) := by kernel_rfl
theorem ty41 : tFld Tryz.prog 55 2 = some (2, 1, false) := by kernel_rfl
theorem ty42 : tSize Tryz.prog 55 = some 4 := by kernel_rfl
theorem ty43 : tAgg Tryz.prog 55 = some true := by kernel_rfl
theorem ty44 : tZero Tryz.prog 55 = some [.str [], .str [], .str [], .bool false] := by kernel_rfl
theorem ty45 : tFld Tryz.prog 55 3 = some (3, 1, false) := by kernel_rfl
theorem ty46 : tSize Tryz.prog 4 = some 1 := by kernel_rfl
theorem ty47 : tAgg Tryz.prog 4 = some false := by kernel_rfl
theorem ty48 : tZero Tryz.prog 59 = some [.nils] := by kernel_rfl
theorem ty49 : tSize Tryz.prog 59 = some 1 := by kernel_rfl
theorem ty50 : tBool Tryz.prog 55 = false := by kernel_rfl
theorem ty51 : tPtr Tryz.prog 55 = false := by kernel_rfl
theorem ty52 : tIface Tryz.prog 55 = false := by kernel_rfl
theorem ty53 : tEqOk Tryz.prog 55 = true := by kernel_rfl
theorem ty54 : tFields Tryz.prog 55 = some [(9, 0, 1), (9, 1, 1), (9, 2, 1), (4, 3, 1)] := by kernel_rfl
theorem ty55 : tInt Tryz.prog 9 = none := by kernel_rfl
theorem ty56 : tStr Tryz.prog 9 = true := by kernel_rfl
theorem ty57 : tBool Tryz.prog 4 = true := by kernel_rfl
theorem ty58 : tPtr Tryz.prog 4 = false := by kernel_rfl
theorem ty59 : tIface Tryz.prog 4 = false := by kernel_rfl
theorem ty60 : tInt Tryz.prog 4 = none := by kernel_rfl
theorem ty61 : tStr Tryz.prog 4 = false := by kernel_rfl
theorem ty62 : tZero Tryz.prog 81 = some [.str [], .str [], .str [], .str [], .str []] := by kernel_rfl
theorem ty63 : tPlaces Tryz.prog 81 = none := by kernel_rfl
theorem ty64 : tArr Tryz.prog 81 = some (5, 1, false) := by kernel_rfl
theorem ty65 : tSize Tryz.prog 81 = some 5 := by kernel_rfl
theorem ty66 : tAgg Tryz.prog 81 = some true := by kernel_rfl
theorem ty67 : tSl Tryz.prog 78 = some (85, 4, true) := by kernel_rfl
theorem ty68 : tSize Tryz.prog 85 = some 4 := by kernel_rfl
theorem ty69 : tAgg Tryz.prog 85 = some true := by kernel_rfl
theorem ty70 : tZero Tryz.prog 85 = some [.str [], .nils, .int .i64 0, .bool false] := by kernel_rfl
theorem ty71 : tFld Tryz.prog 85 2 = some (2, 1, false) := by kernel_rfl
theorem ty72 : tSize Tryz.prog 31 = some 1 := by kernel_rfl
theorem ty73 : tAgg Tryz.prog 31 = some false := by kernel_rfl
theorem ty74 : tFld Tryz.prog 85 0 = some (0, 1, false) := by kernel_rfl
theorem ty75 : tSl Tryz.prog 87 = some (89, 5, true) := by kernel_rfl
theorem ty76 : tZero Tryz.prog 89 = some [.bool false, .int .i64 0, .str [], .int .i64 0, .str []] := by kernel_rfl
theorem ty77 : tPlaces Tryz.prog 89 = some [(0, 1), (1, 1), (2, 1), (3, 2)] := by kernel_rfl
theorem ty78 : tSize Tryz.prog 89 = some 5 := by kernel_rfl
theorem ty79 : tAgg Tryz.prog 89 = some true := by kernel_rfl
theorem ty80 : tFld Tryz.prog 89 0 = some (0, 1, false) := by kernel_rfl
theorem ty81 : tFld Tryz.prog 89 1 = some (1, 1, false) := by kernel_rfl
theorem ty82 : tFld Tryz.prog 89 2 = some (2, 1, false) := by kernel_rfl
theorem ty83 : tFld Tryz.prog 89 3 = some (3, 2, true) := by kernel_rfl
theorem ty84 : tSize Tryz.prog 63 = some 2 := by kernel_rfl
theorem ty85 : tAgg Tryz.prog 63 = some true := by kernel_rfl
theorem ty86 : tSl Tryz.prog 59 = some (63, 2, true) := by kernel_rfl
theorem ty87 : tZero Tryz.prog 63 = some [.int .i64 0, .str []] := by kernel_rfl
theorem ty88 : tZero Tryz.prog 95 = some [.str [], .nils, .int .i64 0, .str [], .nils, .int .i64 0, .str [], .nils, .int .i64 0, .str [], .nils, .int .i64 0, .str [], .nils, .int .i64 0] := by kernel_rfl
theorem ty89 : tSize Tryz.prog 95 = some 15 := by kernel_rfl
theorem ty90 : tAgg Tryz.prog 95 = some true := by kernel_rfl
theorem ty91 : tArr Tryz.prog 95 = some (5, 3, true) := by kernel_rfl
theorem ty92 : tZero Tryz.prog 94 = some [.str [], .nils, .int .i64 0] := by kernel_rfl
theorem ty93 : tSize Tryz.prog 94 = some 3 := by kernel_rfl
theorem ty94 : tFld Tryz.prog 94 2 = some (2, 1, false) := by kernel_rfl
theorem ty95 : tFld Tryz.prog 94 0 = some (0, 1, false) := by kernel_rfl
theorem ty96 : tZero Tryz.prog 101 = some [.int .i64 0, .str [], .int .i64 0, .str []] := by kernel_rfl
theorem ty97 : tSize Tryz.prog 101 = some 4 := by kernel_rfl
theorem ty98 : tAgg Tryz.prog 101 = some true := by kernel_rfl
theorem ty99 : tSl Tryz.prog 99 = some (101, 4, true) := by kernel_rfl
theorem ty100 : tSl Tryz.prog 107 = some (5, 1, false) := by kernel_rfl
theorem ty101 : tZero Tryz.prog 5 = some [.int .u8 0] := by kernel_rfl
theorem ty102 : tBytes Tryz.prog 5 = some 1 := by kernel_rfl
theorem ty103 : tSl Tryz.prog 108 = some (107, 1, false) := by kernel_rfl
theorem ty104 : tZero Tryz.prog 107 = some [.nils] := by kernel_rfl
theorem ty105 : tInt Tryz.prog 107 = none := by kernel_rfl
theorem ty106 : tStr Tryz.prog 107 = false := by kernel_rfl
theorem ty107 : tSl Tryz.prog 9 = none := by kernel_rfl
theorem ty108 : tPlaces Tryz.prog 63 = some [(0, 1), (1, 1)] := by kernel_rfl
theorem ty109 : tAgg Tryz.prog 59 = some false := by kernel_rfl
theorem ty110 : tFld Tryz.prog 63 1 = some (1, 1, false) := by kernel_rfl
theorem ty111 : tSl Tryz.prog 83 = some (9, 1, false) := by kernel_rfl
theorem ty112 : tZero Tryz.prog 9 = some [.str []] := by kernel_rfl
theorem ty113 : tZero Tryz.prog 117 = some [.nilp, .nils] := by kernel_rfl
theorem ty114 : tArr Tryz.prog 68 = some (32, 1, false) := by kernel_rfl
theorem ty115 : tSize Tryz.prog 68 = some 32 := by kernel_rfl
theorem ty116 : tAgg Tryz.prog 68 = some true := by kernel_rfl
theorem ty117 : tZero Tryz.prog 68 = some [.int .u8 0, .int .u8 0, .int .u8 0, .int .u8 0, .int .u8 0, .int .u8 0, .int .u8 0, .int .u8 0, .int .u8 0, .int .u8 0, .int .u8 0, .int .u8 0, .int .u8 0, .int .u8 0, .int .u8 0, .int .u8 0, .int .u8 0, .int .u8 0, .int .u8 0, .int .u8 0, .int .u8 0, .int .u8 0, .int .u8 0, .int .u8 0, .int .u8 0, .int .u8 0, .int .u8 0, .int .u8 0, .int .u8 0, .int .u8 0, .int .u8 0, .int .u8 0] := by kernel_rfl
theorem ty118 : tZero Tryz.prog 127 = some [.int .u32 0, .int .u32 0, .int .u32 0, .int .u32 0, .int .u32 0, .int .u32 0, .int .u32 0, .int .u32 0] := by kernel_rfl
theorem ty119 : tSize Tryz.prog 127 = some 8 := by kernel_rfl
theorem ty120 : tArr Tryz.prog 127 = some (8, 1, false) := by kernel_rfl
theorem ty121 : tSize Tryz.prog 126 = some 1 := by kernel_rfl
theorem ty122 : tAgg Tryz.prog 126 = some false := by kernel_rfl
theorem ty123 : tAgg Tryz.prog 127 = some true := by kernel_rfl
theorem ty124 : tZero Tryz.prog 92 = some [.nilf] := by kernel_rfl
theorem ty125 : tSize Tryz.prog 92 = some 1 := by kernel_rfl
theorem ty126 : tFld Tryz.prog 85 3 = some (3, 1, false) := by kernel_rfl
theorem ty127 : tFld Tryz.prog 63 0 = some (0, 1, false) := by kernel_rfl
theorem ty128 : tPlaces Tryz.prog 101 = some [(0, 1), (1, 1), (2, 2)] := by kernel_rfl
theorem ty129 : tBool Tryz.prog 2 = false := by kernel_rfl
theorem ty130 : tPtr Tryz.prog 2 = false := by kernel_rfl
theorem ty131 : tIface Tryz.prog 2 = false := by kernel_rfl
theorem ty132 : tFld Tryz.prog 101 0 = some (0, 1, false) := by kernel_rfl
theorem ty133 : tFld Tryz.prog 101 1 = some (1, 1, false) := by kernel_rfl
theorem ty134 : tFld Tryz.prog 101 2 = some (2, 2, true) := by kernel_rfl
theorem ty135 : tSize Tryz.prog 107 = some 1 := by kernel_rfl
theorem ty136 : tAgg Tryz.prog 107 = some false := by kernel_rfl
theorem ty137 : tSize Tryz.prog 5 = some 1 := by kernel_rfl
theorem ty138 : tAgg Tryz.prog 94 = some true := by kernel_rfl
theorem ty139 : tSize Tryz.prog 70 = some 1 := by kernel_rfl
theorem ty140 : tAgg Tryz.prog 70 = some false := by kernel_rfl
theorem ty141 : tPlaces Tryz.prog 94 = some [(0, 1), (1, 1), (2, 1)] := by kernel_rfl
theorem ty142 : tPlaces Tryz.prog 55 = some [(0, 1), (1, 1), (2, 1), (3, 1)] := by kernel_rfl
theorem ty143 : tFld Tryz.prog 117 1 = some (1, 1, false) := by kernel_rfl
theorem ty144 : tPlaces Tryz.prog 127 = none := by kernel_rfl
theorem ty145 : tInt Tryz.prog 155 = some .u64 := by kernel_rfl
theorem ty146 : tStr Tryz.prog 155 = false := by kernel_rfl
theorem ty147 : tSl Tryz.prog 155 = none := by kernel_rfl
theorem ty148 : tInt Tryz.prog 126 = some .u32 := by kernel_rfl
theorem ty149 : tStr Tryz.prog 126 = false := by kernel_rfl
theorem ty150 : tSl Tryz.prog 126 = none := by kernel_rfl
theorem ty151 : tAgg Tryz.prog 92 = some false := by kernel_rfl
theorem ty152 : tPlaces Tryz.prog 85 = some [(0, 1), (1, 1), (2, 1), (3, 1)] := by kernel_rfl
theorem ty153 : tFld Tryz.prog 85 1 = some (1, 1, false) := by kernel_rfl
theorem ty154 : tSize Tryz.prog 83 = some 1 := by kernel_rfl
theorem ty155 : tInt Tryz.prog 2 = some .i64 := by kernel_rfl
theorem ty156 : tStr Tryz.prog 2 = false := by kernel_rfl
theorem ty157 : tSl Tryz.prog 2 = none := by kernel_rfl
theorem ty158 : tBool Tryz.prog 5 = false := by kernel_rfl
theorem ty159 : tPtr Tryz.prog 5 = false := by kernel_rfl
theorem ty160 : tIface Tryz.prog 5 = false := by kernel_rfl
theorem ty161 : tAgg Tryz.prog 5 = some false := by kernel_rfl
theorem ty162 : tBool Tryz.prog 119 = false := by kernel_rfl
theorem ty163 : tPtr Tryz.prog 119 = false := by kernel_rfl
theorem ty164 : tIface Tryz.prog 119 = true := by kernel_rfl
theorem ty165 : tZero Tryz.prog 179 = some [.bool false, .bool false, .bool false, .bool false, .bool false, .bool false] := by kernel_rfl
theorem ty166 : tArr Tryz.prog 179 = some (6, 1, false) := by kernel_rfl
theorem ty167 : tFld Tryz.prog 117 0 = some (0, 1, false) := by kernel_rfl
theorem ty168 : tSize Tryz.prog 115 = some 1 := by kernel_rfl
theorem ty169 : tAgg Tryz.prog 115 = some false := by kernel_rfl
theorem ty170 : tBool Tryz.prog 115 = false := by kernel_rfl
theorem ty171 : tPtr Tryz.prog 115 = true := by kernel_rfl
theorem ty172 : tIface Tryz.prog 115 = false := by kernel_rfl
theorem ty173 : tInt Tryz.prog 115 = none := by kernel_rfl
theorem ty174 : tStr Tryz.prog 115 = false := by kernel_rfl
theorem ty175 : tSl Tryz.prog 115 = none := by kernel_rfl
theorem ty176 : tInt Tryz.prog 183 = none := by kernel_rfl
theorem ty177 : tStr Tryz.prog 183 = false := by kernel_rfl
theorem ty178 : tSl Tryz.prog 183 = none := by kernel_rfl
theorem ty179 : tZero Tryz.prog 185 = some [.int .u8 0, .int .u8 0, .int .u8 0, .int .u8 0, .int .u8 0, .int .u8 0, .int .u8 0, .int .u8 0, .int .u8 0, .int .u8 0, .int .u8 0, .int .u8 0, .int .u8 0, .int .u8 0, .int .u8 0, .int .u8 0, .int .u8 0, .int .u8 0, .int .u8 0, .int .u8 0, .int .u8 0, .int .u8 0, .int .u8 0, .int .u8 0] := by kernel_rfl
theorem ty180 : tArr Tryz.prog 185 = some (24, 1, false) := by kernel_rfl
theorem ty181 : tZero Tryz.prog 190 = some [.int .u32 0, .int .u32 0, .int .u32 0, .int .u32 0, .int .u32 0, .int .u32 0, .int .u32 0, .int .u32 0, .int .u32 0, .int .u32 0, .int .u32 0, .int .u32 0, .int .u32 0, .int .u32 0, .int .u32 0, .int .u32 0] := by kernel_rfl
theorem ty182 : tArr Tryz.prog 190 = some (16, 1, false) := by kernel_rfl
theorem ty183 : tInt Tryz.prog 193 = some .u64 := by kernel_rfl
theorem ty184 : tStr Tryz.prog 193 = false := by kernel_rfl
theorem ty185 : tSl Tryz.prog 193 = none := by kernel_rfl
theorem ty186 : tBool Tryz.prog 22 = false := by kernel_rfl
theorem ty187 : tPtr Tryz.prog 22 = false := by kernel_rfl
theorem ty188 : tIface Tryz.prog 22 = false := by kernel_rfl
theorem ty189 : tBool Tryz.prog 23 = false := by kernel_rfl
theorem ty190 : tPtr Tryz.prog 23 = false := by kernel_rfl
theorem ty191 : tIface Tryz.prog 23 = false := by kernel_rfl
theorem ty192 : tInt Tryz.prog 201 = some .u16 := by kernel_rfl
theorem ty193 : tStr Tryz.prog 201 = false := by kernel_rfl
theorem ty194 : tSl Tryz.prog 201 = none := by kernel_rfl
theorem ty195 : tBool Tryz.prog 201 = false := by kernel_rfl
theorem ty196 : tPtr Tryz.prog 201 = false := by kernel_rfl
theorem ty197 : tIface Tryz.prog 201 = false := by kernel_rfl
theorem ty198 : tSize Tryz.prog 108 = some 1 := by kernel_rfl
theorem ty199 : tAgg Tryz.prog 108 = some false := by kernel_rfl
theorem ty200 : tArr Tryz.prog 204 = some (20, 1, false) := by kernel_rfl
theorem ty201 : tSize Tryz.prog 155 = some 1 := by kernel_rfl
theorem ty202 : tAgg Tryz.prog 155 = some false := by kernel_rfl
theorem ty203 : tZero Tryz.prog 205 = some [.int .u8 0, .int .u8 0, .int .u8 0, .int .u8 0, .int .u8 0, .int .u8 0, .int .u8 0, .int .u8 0, .int .u8 0, .int .u8 0, .int .u8 0, .int .u8 0, .int .u8 0, .int .u8 0, .int .u8 0, .int .u8 0, .int .u8 0, .int .u8 0, .int .u8 0, .int .u8 0, .int .u8 0, .int .u8 0, .int .u8 0, .int .u8 0, .int .u8 0, .int .u8 0, .int .u8 0, .int .u8 0, .int .u8 0, .int .u8 0, .int .u8 0, .int .u8 0, .int .u8 0, .int .u8 0, .int .u8 0, .int .u8 0, .int .u8 0, .int .u8 0, .int .u8 0, .int .u8 0, .int .u8 0, .int .u8 0, .int .u8 0, .int .u8 0, .int .u8 0, .int .u8 0, .int .u8 0, .int .u8 0, .int .u8 0, .int .u8 0, .int .u8 0, .int .u8 0, .int .u8 0, .int .u8 0, .int .u8 0, .int .u8 0, .int .u8 0, .int .u8 0, .int .u8 0, .int .u8 0, .int .u8 0, .int .u8 0, .int .u8 0, .int .u8 0, .int .u8 0] := by kernel_rfl
theorem ty204 : tArr Tryz.prog 205 = some (65, 1, false) := by kernel_rfl
theorem ty205 : tSize Tryz.prog 190 = some 16 := by kernel_rfl
theorem ty206 : tAgg Tryz.prog 190 = some true := by kernel_rfl
theorem ty207 : tSize Tryz.prog 195 = some 1 := by kernel_rfl
theorem ty208 : tAgg Tryz.prog 195 = some false := by kernel_rfl
theorem ty209 : tSize Tryz.prog 119 = some 1 := by kernel_rfl
theorem ty210 : tAgg Tryz.prog 119 = some false := by kernel_rfl
theorem ty211 : tZero Tryz.prog 228 = some [.str [], .str [], .nili] := by kernel_rfl
theorem ty212 : tPlaces Tryz.prog 228 = some [(0, 1), (1, 1), (2, 1)] := by kernel_rfl
theorem ty213 : tBool Tryz.prog 126 = false := by kernel_rfl
theorem ty214 : tPtr Tryz.prog 126 = false := by kernel_rfl
theorem ty215 : tIface Tryz.prog 126 = false := by kernel_rfl
theorem ty216 : tArr Tryz.prog 67 = some (32, 1, false) := by kernel_rfl
theorem ty217 : tBool Tryz.prog 155 = false := by kernel_rfl
theorem ty218 : tPtr Tryz.prog 155 = false := by kernel_rfl
theorem ty219 : tIface Tryz.prog 155 = false := by kernel_rfl
theorem ty220 : tArr Tryz.prog 230 = some (64, 1, false) := by kernel_rfl
theorem ty221 : tBool Tryz.prog 21 = false := by kernel_rfl
theorem ty222 : tPtr Tryz.prog 21 = false := by kernel_rfl
theorem ty223 : tIface Tryz.prog 21 = false := by kernel_rfl
theorem ty224 : tZero Tryz.prog 233 = some [.str []] := by kernel_rfl
theorem ty225 : tPlaces Tryz.prog 233 = some [(0, 1)] := by kernel_rfl
theorem ty226 : tZero Tryz.prog 67 = some [.int .u8 0, .int .u8 0, .int .u8 0, .int .u8 0, .int .u8 0, .int .u8 0, .int .u8 0, .int .u8 0, .int .u8 0, .int .u8 0, .int .u8 0, .int .u8 0, .int .u8 0, .int .u8 0, .int .u8 0, .int .u8 0, .int .u8 0, .int .u8 0, .int .u8 0, .int .u8 0, .int .u8 0, .int .u8 0, .int .u8 0, .int .u8 0, .int .u8 0, .int .u8 0, .int .u8 0, .int .u8 0, .int .u8 0, .int .u8 0, .int .u8 0, .int .u8 0] := by kernel_rfl
theorem ty227 : tPlaces Tryz.prog 67 = none := by kernel_rfl
theorem ty228 : tSize Tryz.prog 67 = some 32 := by kernel_rfl
theorem ty229 : tZero Tryz.prog 230 = some [.int .u8 0, .int .u8 0, .int .u8 0, .int .u8 0, .int .u8 0, .int .u8 0, .int .u8 0, .int .u8 0, .int .u8 0, .int .u8 0, .int .u8 0, .int .u8 0, .int .u8 0, .int .u8 0, .int .u8 0, .int .u8 0, .int .u8 0, .int .u8 0, .int .u8 0, .int .u8 0, .int .u8 0, .int .u8 0, .int .u8 0, .int .u8 0, .int .u8 0, .int .u8 0, .int .u8 0, .int .u8 0, .int .u8 0, .int .u8 0, .int .u8 0, .int .u8 0, .int .u8 0, .int .u8 0, .int .u8 0, .int .u8 0, .int .u8 0, .int .u8 0, .int .u8 0, .int .u8 0, .int .u8 0, .int .u8 0, .int .u8 0, .int .u8 0, .int .u8 0, .int .u8 0, .int .u8 0, .int .u8 0, .int .u8 0, .int .u8 0, .int .u8 0, .int .u8 0, .int .u8 0, .int .u8 0, .int .u8 0, .int .u8 0, .int .u8 0, .int .u8 0, .int .u8 0, .int .u8 0, .int .u8 0, .int .u8 0, .int .u8 0, .int .u8 0] := by kernel_rfl
theorem ty230 : tPlaces Tryz.prog 230 = none := by kernel_rfl
theorem ty231 : tSize Tryz.prog 230 = some 64 := by kernel_rfl
theorem ty232 : tZero Tryz.prog 204 = some [.int .u64 0, .int .u64 0, .int .u64 0, .int .u64 0, .int .u64 0, .int .u64 0, .int .u64 0, .int .u64 0, .int .u64 0, .int .u64 0, .int .u64 0, .int .u64 0, .int .u64 0, .int .u64 0, .int .u64 0, .int .u64 0, .int .u64 0, .int .u64 0, .int .u64 0, .int .u64 0] := by kernel_rfl
theorem ty233 : tPlaces Tryz.prog 204 = none := by kernel_rfl
theorem ty234 : tSize Tryz.prog 204 = some 20 := by kernel_rfl
theorem ty235 : tStr Tryz.prog 10 = true := by kernel_rfl
theorem ty236 : tStr Tryz.prog 11 = true := by kernel_rfl
theorem ty237 : tAp Tryz.prog 22 22 = some (4, 56) := by kernel_rfl
theorem ty238 : tAp Tryz.prog 23 23 = some (1, 8) := by kernel_rfl
theorem ty239 : tAp Tryz.prog 59 59 = some (2, 24) := by kernel_rfl
theorem ty240 : tAp Tryz.prog 78 78 = some (4, 56) := by kernel_rfl
theorem ty241 : tAp Tryz.prog 83 83 = some (1, 16) := by kernel_rfl
theorem ty242 : tAp Tryz.prog 87 87 = some (5, 56) := by kernel_rfl
theorem ty243 : tAp Tryz.prog 99 99 = some (4, 48) := by kernel_rfl
theorem ty244 : tAp Tryz.prog 107 107 = some (1, 1) := by kernel_rfl
theorem ty245 : tAp Tryz.prog 107 9 = some (1, 1) := by kernel_rfl
theorem ty246 : tAp Tryz.prog 108 108 = some (1, 24) := by kernel_rfl
theorem ty247 : tSl Tryz.prog 192 = some (126, 1, false) := by kernel_rfl
theorem ty248 : tAp Tryz.prog 192 192 = some (1, 4) := by kernel_rfl
theorem ty249 : tArr Tryz.prog 236 = some (0, 1, false) := by kernel_rfl
def STy0 := (And.intro (And.intro (And.intro (And.intro (And.intro ty0 (And.intro ty1 ty2)) (And.intro (And.intro ty3 ty4) (And.intro ty5 ty6))) (And.intro (And.intro (And.intro ty7 ty8) (And.intro ty9 ty10)) (And.intro (And.intro ty11 ty12) (And.intro ty13 ty14)))) (And.intro (And.intro (And.intro ty15 (And.intro ty16 ty17)) (And.intro (And.intro ty18 ty19) (And.intro ty20 ty21))) (And.intro (And.intro (And.intro ty22 ty23) (And.intro ty24 ty25)) (And.intro (And.intro ty26 ty27) (And.intro ty28 ty29))))) (And.intro (And.intro (And.intro (And.intro ty30 (And.intro ty31 ty32)) (And.intro (And.intro ty33 ty34) (And.intro ty35 ty36))) (And.intro (And.intro (And.intro ty37 ty38) (And.intro ty39 ty40)) (And.intro (And.intro ty41 ty42) (And.intro ty43 ty44)))) (And.intro (And.intro (And.intro ty45 (And.intro ty46 ty47)) (And.intro (And.intro ty48 ty49) (And.intro ty50 ty51))) (And.intro (And.intro (And.intro ty52 ty53) (And.intro ty54 ty55)) (And.intro (And.intro ty56 ty57) (And.intro ty58 ty59))))))
def STy1 := (And.intro (And.intro (And.intro (And.intro (And.intro ty60 (And.intro ty61 ty62)) (And.intro (And.intro ty63 ty64) (And.intro ty65 ty66))) (And.intro (And.intro (And.intro ty67 ty68) (And.intro ty69 ty70)) (And.intro (And.intro ty71 ty72) (And.intro ty73 ty74)))) (And.intro (And.intro (And.intro ty75 (And.intro ty76 ty77)) (And.intro (And.intro ty78 ty79) (And.intro ty80 ty81))) (And.intro (And.intro (And.intro ty82 ty83) (And.intro ty84 ty85)) (And.intro (And.intro ty86 ty87) (And.intro ty88 ty89))))) (And.intro (And.intro (And.intro (And.intro ty90 (And.intro ty91 ty92)) (And.intro (And.intro ty93 ty94) (And.intro ty95 ty96))) (And.intro (And.intro (And.intro ty97 ty98) (And.intro ty99 ty100)) (And.intro (And.intro ty101 ty102) (And.intro ty103 ty104)))) (And.intro (And.intro (And.intro ty105 (And.intro ty106 ty107)) (And.intro (And.intro ty108 ty109) (And.intro ty110 ty111))) (And.intro (And.intro (And.intro ty112 ty113) (And.intro ty114 ty115)) (And.intro (And.intro ty116 ty117) (And.intro ty118 ty119))))))
def STy2 := (And.intro (And.intro (And.intro (And.intro (And.intro ty120 (And.intro ty121 ty122)) (And.intro (And.intro ty123 ty124) (And.intro ty125 ty126))) (And.intro (And.intro (And.intro ty127 ty128) (And.intro ty129 ty130)) (And.intro (And.intro ty131 ty132) (And.intro ty133 ty134)))) (And.intro (And.intro (And.intro ty135 (And.intro ty136 ty137)) (And.intro (And.intro ty138 ty139) (And.intro ty140 ty141))) (And.intro (And.intro (And.intro ty142 ty143) (And.intro ty144 ty145)) (And.intro (And.intro ty146 ty147) (And.intro ty148 ty149))))) (And.intro (And.intro (And.intro (And.intro ty150 (And.intro ty151 ty152)) (And.intro (And.intro ty153 ty154) (And.intro ty155 ty156))) (And.intro (And.intro (And.intro ty157 ty158) (And.intro ty159 ty160)) (And.intro (And.intro ty161 ty162) (And.intro ty163 ty164)))) (And.intro (And.intro (And.intro ty165 (And.intro ty166 ty167)) (And.intro (And.intro ty168 ty169) (And.intro ty170 ty171))) (And.intro (And.intro (And.intro ty172 ty173) (And.intro ty174 ty175)) (And.intro (And.intro ty176 ty177) (And.intro ty178 ty179))))))
def STy3 := (And.intro (And.intro (And.intro (And.intro (And.intro ty180 (And.intro ty181 ty182)) (And.intro (And.intro ty183 ty184) (And.intro ty185 ty186))) (And.intro (And.intro (And.intro ty187 ty188) (And.intro ty189 ty190)) (And.intro (And.intro ty191 ty192) (And.intro ty193 ty194)))) (And.intro (And.intro (And.intro ty195 (And.intro ty196 ty197)) (And.intro (And.intro ty198 ty199) (And.intro ty200 ty201))) (And.intro (And.intro (And.intro ty202 ty203) (And.intro ty204 ty205)) (And.intro (And.intro ty206 ty207) (And.intro ty208 ty209))))) (And.intro (And.intro (And.intro (And.intro ty210 (And.intro ty211 ty212)) (And.intro (And.intro ty213 ty214) (And.intro ty215 ty216))) (And.intro (And.intro (And.intro ty217 ty218) (And.intro ty219 ty220)) (And.intro (And.intro ty221 ty222) (And.intro ty223 ty224)))) (And.intro (And.intro (And.intro ty225 (And.intro ty226 ty227)) (And.intro (And.intro ty228 ty229) (And.intro ty230 ty231))) (And.intro (And.intro (And.intro ty232 ty233) (And.intro ty234 ty235)) (And.intro (And.intro ty236 ty237) (And.intro ty238 ty239))))))
def STy4 := (And.intro (And.intro (And.intro ty240 ty241) (And.intro ty242 (And.intro ty243 ty244))) (And.intro (And.intro ty245 ty246) (And.intro ty247 (And.intro ty248 ty249))))
def STy := (And.intro (And.intro STy0 STy1) (And.intro STy2 (And.intro STy3 STy4)))
theorem mixed : Tryz.prog.follows .mixedOrders = true := by kernel_rfl
end Go.Ab
namespace Go.Ab
open Go
variable [Glob] {P : Program}

/-! ### states, written out -/
def botT : Nat → AV := fun _ => .bot
theorem botT_at (i : Nat) : botT i = .bot := rfl
def mkT : List (Nat × AV) → Nat → AV
  | [] => botT
  | (k, v) :: r => upd (mkT r) k v
def mkH : List (Nat × AObj) → Nat → AObj
  | [] => dead
  | (k, v) :: r => upd (mkH r) k v
theorem dead_at (i : Nat) : dead i = .dead := rfl
/-- the temporaries and the objects that are told of -/
def mk (ts : List (Nat × AV)) (hs : List (Nat × AObj)) (n : Nat) : AS := ⟨mkT ts, mkH hs, n⟩
theorem mkT_nil : mkT [] = botT := rfl
theorem mkT_cons (k : Nat) (v : AV) (r : List (Nat × AV)) : mkT ((k, v) :: r) = upd (mkT r) k v := rfl
theorem mkH_nil : mkH [] = dead := rfl
theorem mkH_cons (k : Nat) (v : AObj) (r : List (Nat × AObj)) : mkH ((k, v) :: r) = upd (mkH r) k v := rfl
theorem mk_eq (ts : List (Nat × AV)) (hs : List (Nat × AObj)) (n : Nat) : mk ts hs n = ⟨mkT ts, mkH hs, n⟩ := rfl

theorem mkT_at : ∀ (ts : List (Nat × AV)) (i : Nat), mkT ts i = .bot ∨ ∃ v, (i, v) ∈ ts ∧ mkT ts i = v
  | [], i => .inl rfl
  | (k, v) :: r, i => by
    rw [mkT_cons]
    by_cases e : i = k
    · subst e; exact .inr ⟨v, by simp, upd_same _ _ _⟩
    · rw [upd_ne _ _ e]
      rcases mkT_at r i with h | ⟨w, h1, h2⟩
      · exact .inl h
      · exact .inr ⟨w, by simp [h1], h2⟩
theorem mkH_at : ∀ (ts : List (Nat × AObj)) (i : Nat), mkH ts i = .dead ∨ ∃ v, (i, v) ∈ ts ∧ mkH ts i = v
  | [], i => .inl rfl
  | (k, v) :: r, i => by
    rw [mkH_cons]
    by_cases e : i = k
    · subst e; exact .inr ⟨v, by simp, upd_same _ _ _⟩
    · rw [upd_ne _ _ e]
      rcases mkH_at r i with h | ⟨w, h1, h2⟩
      · exact .inl h
      · exact .inr ⟨w, by simp [h1], h2⟩

/-- all of them stand so -/
def allT (s : AS) (n : Nat) : List (Nat × AV) → Prop
  | [] => True
  | (k, v) :: r => s.t k = v ∧ v.lt n ∧ allT s n r
def allH (s : AS) (n : Nat) : List (Nat × AObj) → Prop
  | [] => True
  | (k, v) :: r => s.h k = v ∧ k < n ∧ v.lt n ∧ allH s n r
theorem allT_mem {s : AS} {n : Nat} : ∀ {ts : List (Nat × AV)}, allT s n ts → ∀ {i v}, (i, v) ∈ ts → s.t i = v ∧ v.lt n
  | (k, w) :: r, h, i, v, hm => by
    cases hm with
    | head => exact ⟨h.1, h.2.1⟩
    | tail _ hm => exact allT_mem h.2.2 hm
theorem allH_mem {s : AS} {n : Nat} : ∀ {ts : List (Nat × AObj)}, allH s n ts → ∀ {i v}, (i, v) ∈ ts → s.h i = v ∧ i < n ∧ v.lt n
  | (k, w) :: r, h, i, v, hm => by
    cases hm with
    | head => exact ⟨h.1, h.2.1, h.2.2.1⟩
    | tail _ hm => exact allH_mem h.2.2.2 hm
theorem less_mk {b n : Nat} {ts : List (Nat × AV)} {hs : List (Nat × AObj)} {s : AS} (h1 : b ≤ n) (h2 : n ≤ s.n) (h3 : allT s n ts) (h4 : allH s n hs) : Less b (mk ts hs n) s := by
  refine ⟨h1, h2, fun i => ?_, fun i => ?_⟩
  · rcases mkT_at ts i with h | ⟨v, hm, hv⟩
    · exact .inl h
    · right
      obtain ⟨e1, e2⟩ := allT_mem h3 hm
      show mkT ts i = s.t i ∧ (mkT ts i).lt n
      rw [hv]; exact ⟨e1.symm, e2⟩
  · rcases mkH_at hs i with h | ⟨v, hm, hv⟩
    · exact .inl h
    · right
      obtain ⟨e1, e2, e3⟩ := allH_mem h4 hm
      show mkH hs i = s.h i ∧ i < n ∧ (mkH hs i).lt n
      rw [hv]; exact ⟨e1.symm, e2, e3⟩
theorem allT_nil {s : AS} {n : Nat} : allT s n [] = True := rfl
theorem allT_cons {s : AS} {n k : Nat} {v : AV} {r : List (Nat × AV)} : allT s n ((k, v) :: r) = (s.t k = v ∧ v.lt n ∧ allT s n r) := rfl
theorem allH_nil {s : AS} {n : Nat} : allH s n [] = True := rfl
theorem allH_cons {s : AS} {n k : Nat} {v : AObj} {r : List (Nat × AObj)} : allH s n ((k, v) :: r) = (s.h k = v ∧ k < n ∧ v.lt n ∧ allH s n r) := rfl

/-! ### bytes -/
theorem wrap8 (n : Nat) (h : n < 256) : IntKind.u8.wrap (n : Int) = n := by rw [IntKind.wrap_u8]; omega
theorem bv8 (x : UInt8) : BitVec.ofInt IntKind.u8.bits ((x.toNat : Nat) : Int) = x.toBitVec := by
  show BitVec.ofInt 8 _ = _
  rw [BitVec.ofInt_natCast]
  apply BitVec.eq_of_toNat_eq
  simp
theorem bv8c (n : Nat) : BitVec.ofInt IntKind.u8.bits (no_index (OfNat.ofNat n) : Int) = (UInt8.ofNat n).toBitVec := by
  show BitVec.ofInt 8 ((n : Nat) : Int) = _
  rw [BitVec.ofInt_natCast]; rfl
theorem v8_and (x y : UInt8) : IntKind.u8.wrap ((BitVec.ofInt IntKind.u8.bits (x.toNat : Int) &&& BitVec.ofInt IntKind.u8.bits (y.toNat : Int)).toNat : Int) = ((x &&& y).toNat : Nat) := by
  rw [bv8, bv8, wrap8 _ (BitVec.isLt _)]; rfl
theorem v8_andc (x : UInt8) (n : Nat) : IntKind.u8.wrap ((BitVec.ofInt IntKind.u8.bits (x.toNat : Int) &&& BitVec.ofInt IntKind.u8.bits (no_index (OfNat.ofNat n) : Int)).toNat : Int) = ((x &&& UInt8.ofNat n).toNat : Nat) := by
  rw [bv8, bv8c, wrap8 _ (BitVec.isLt _)]; rfl
theorem v8_or (x y : UInt8) : IntKind.u8.wrap ((BitVec.ofInt IntKind.u8.bits (x.toNat : Int) ||| BitVec.ofInt IntKind.u8.bits (y.toNat : Int)).toNat : Int) = ((x ||| y).toNat : Nat) := by
  rw [bv8, bv8, wrap8 _ (BitVec.isLt _)]; rfl
theorem v8_orc (x : UInt8) (n : Nat) : IntKind.u8.wrap ((BitVec.ofInt IntKind.u8.bits (x.toNat : Int) ||| BitVec.ofInt IntKind.u8.bits (no_index (OfNat.ofNat n) : Int)).toNat : Int) = ((x ||| UInt8.ofNat n).toNat : Nat) := by
  rw [bv8, bv8c, wrap8 _ (BitVec.isLt _)]; rfl
theorem v8_xor (x y : UInt8) : IntKind.u8.wrap ((BitVec.ofInt IntKind.u8.bits (x.toNat : Int) ^^^ BitVec.ofInt IntKind.u8.bits (y.toNat : Int)).toNat : Int) = ((x ^^^ y).toNat : Nat) := by
  rw [bv8, bv8, wrap8 _ (BitVec.isLt _)]; rfl
theorem v8_xorc (x : UInt8) (n : Nat) : IntKind.u8.wrap ((BitVec.ofInt IntKind.u8.bits (x.toNat : Int) ^^^ BitVec.ofInt IntKind.u8.bits (no_index (OfNat.ofNat n) : Int)).toNat : Int) = ((x ^^^ UInt8.ofNat n).toNat : Nat) := by
  rw [bv8, bv8c, wrap8 _ (BitVec.isLt _)]; rfl
theorem wrap8_mod (n : Nat) : IntKind.u8.wrap (n : Int) = ((n % 256 : Nat) : Int) := by rw [IntKind.wrap_u8]; omega
theorem v8_add (x y : UInt8) : IntKind.u8.wrap ((x.toNat : Int) + (y.toNat : Int)) = ((x + y).toNat : Nat) := by
  rw [← Int.natCast_add, wrap8_mod]; simp
theorem v8_addc (x : UInt8) (n : Nat) : IntKind.u8.wrap ((x.toNat : Int) + (no_index (OfNat.ofNat n) : Int)) = ((x + UInt8.ofNat n).toNat : Nat) := by
  show IntKind.u8.wrap ((x.toNat : Int) + ((n : Nat) : Int)) = _
  rw [← Int.natCast_add, wrap8_mod]; simp
theorem v8_mul (x y : UInt8) : IntKind.u8.wrap ((x.toNat : Int) * (y.toNat : Int)) = ((x * y).toNat : Nat) := by
  rw [← Int.natCast_mul, wrap8_mod]; simp
theorem v8_mulc (x : UInt8) (n : Nat) : IntKind.u8.wrap ((x.toNat : Int) * (no_index (OfNat.ofNat n) : Int)) = ((x * UInt8.ofNat n).toNat : Nat) := by
  show IntKind.u8.wrap ((x.toNat : Int) * ((n : Nat) : Int)) = _
  rw [← Int.natCast_mul, wrap8_mod]; simp
theorem lt256 (x : UInt8) : (x.toNat : Int) < 256 := by have := x.toNat_lt; omega
theorem nn8 (x : UInt8) : 0 ≤ (x.toNat : Int) := by omega

theorem b_shl_c (k k' : IntKind) (a : Int) (n : Nat) : abin .shl (.int k a) (.int k' (no_index (OfNat.ofNat n))) = some (.int k (k.wrap (a * 2 ^ (min n k.bits)))) :=
  b_shl k k' a ((n : Nat) : Int) (Int.natCast_nonneg n)
theorem b_shr_c (k k' : IntKind) (a : Int) (n : Nat) : abin .shr (.int k a) (.int k' (no_index (OfNat.ofNat n))) = some (.int k (a.fdiv (2 ^ (min n k.bits)))) :=
  b_shr k k' a ((n : Nat) : Int) (Int.natCast_nonneg n)
theorem v8_shr (x : UInt8) (n : Nat) (h : n < 8) : Int.fdiv (x.toNat : Int) (2 ^ min n IntKind.u8.bits) = ((x >>> UInt8.ofNat n).toNat : Nat) := by
  have e : min n IntKind.u8.bits = n := by show min n 8 = n; omega
  rw [e]
  have e2 : ((2 : Int) ^ n) = ((2 ^ n : Nat) : Int) := by simp
  rw [e2, Int.fdiv_eq_ediv_of_nonneg _ (Int.natCast_nonneg _), ← Int.natCast_ediv]
  congr 1
  simp [UInt8.toNat_shiftRight, Nat.shiftRight_eq_div_pow, Nat.mod_eq_of_lt (show n < 256 by omega), Nat.mod_eq_of_lt h]
theorem v8_shl (x : UInt8) (n : Nat) (h : n < 8) : IntKind.u8.wrap ((x.toNat : Int) * 2 ^ min n IntKind.u8.bits) = ((x <<< UInt8.ofNat n).toNat : Nat) := by
  have e : min n IntKind.u8.bits = n := by show min n 8 = n; omega
  rw [e]
  have e2 : ((2 : Int) ^ n) = ((2 ^ n : Nat) : Int) := by simp
  rw [e2, ← Int.natCast_mul, wrap8_mod]
  congr 1
  simp [UInt8.toNat_shiftLeft, Nat.shiftLeft_eq, Nat.mod_eq_of_lt (show n < 256 by omega), Nat.mod_eq_of_lt h]


/-! ### a loop's round, told without what stands in it -/
def finR {α : Type} (st : α → AS) (J : α → Prop) (μ : α → Nat) (b m : Nat) (s' : AS) : Prop := ∃ p', J p' ∧ μ p' < m ∧ Less b (st p') s'
theorem finR_of {α : Type} {st : α → AS} {J : α → Prop} {μ : α → Nat} {b m : Nat} {s' : AS} (p' : α) (h1 : J p') (h2 : μ p' < m) (h3 : Less b (st p') s') : finR st J μ b m s' := ⟨p', h1, h2, h3⟩
theorem loopF (hm : P.follows .mixedOrders = true) {nt b : Nat} {z : List Nat} {Q : AEx → AS → Prop} {x : Code} {ks : List Kt} {s : AS} {α : Type} (st : α → AS) (J : α → Prop) (μ : α → Nat) (p0 : α) (f : Nat)
    (hx : codeOk nt x = true) (hk : ksOk nt ks = true) (h0 : J p0) (l0 : Less b (st p0) s)
    (round : ∀ p, J p → go P nt b z Q f x (.fin (finR st J μ b (μ p)) :: ks) (st p)) : LoopG P nt b z Q (.loop x) ks s :=
  loopG hm st J μ p0 f hx hk h0 l0 fun p hp => round p hp
theorem go_mk {nt b f : Nat} {z : List Nat} {Q : AEx → AS → Prop} {ks : List Kt} {c : Code} (ts : List (Nat × AV)) (hs : List (Nat × AObj)) (n : Nat) :
    go P nt b z Q f c ks (mk ts hs n) = go P nt b z Q f c ks ⟨mkT ts, mkH hs, n⟩ := rfl

section
variable {g : Code → List Kt → AS → Prop} {x y : Code} {ks : List Kt} {s : AS}
theorem condG_p {p : Prop} [Decidable p] (h1 : p → g x ks s) (h2 : ¬ p → g y ks s) : condG (.bool (decide p)) g x y ks s := ⟨fun h => h1 (of_decide_eq_true h), fun h => h2 (of_decide_eq_false h)⟩
theorem condG_np {p : Prop} [Decidable p] (h1 : ¬ p → g x ks s) (h2 : p → g y ks s) : condG (.bool (!decide p)) g x y ks s :=
  ⟨fun h => h1 (by simpa using h), fun h => h2 (by simpa using h)⟩
end
section
variable {z : List Nat} {ops : Array Oper} {K : AS → Prop} {op : Op} {rest : List Oper} {d : Option Tmp} {s : AS} {KD : List Rec → AS → Prop} {acc : List Rec}
theorem gL_p {p : Prop} [Decidable p] (h1 : p → gL (some true) P z ops K op rest s d) (h2 : ¬ p → gL (some false) P z ops K op rest s d) : gL (some (decide p)) P z ops K op rest s d := by
  by_cases h : p
  · simpa [h] using h1 h
  · simpa [h] using h2 h
theorem gL_np {p : Prop} [Decidable p] (h1 : ¬ p → gL (some true) P z ops K op rest s d) (h2 : p → gL (some false) P z ops K op rest s d) : gL (some (!decide p)) P z ops K op rest s d := by
  by_cases h : p
  · simpa [h] using h2 h
  · simpa [h] using h1 h
theorem gD_p {p : Prop} [Decidable p] (h1 : p → gD (some true) P z ops KD op rest acc s d) (h2 : ¬ p → gD (some false) P z ops KD op rest acc s d) : gD (some (decide p)) P z ops KD op rest acc s d := by
  by_cases h : p
  · simpa [h] using h1 h
  · simpa [h] using h2 h
theorem gD_np {p : Prop} [Decidable p] (h1 : ¬ p → gD (some true) P z ops KD op rest acc s d) (h2 : p → gD (some false) P z ops KD op rest acc s d) : gD (some (!decide p)) P z ops KD op rest acc s d := by
  by_cases h : p
  · simpa [h] using h2 h
  · simpa [h] using h1 h
end

theorem i64e {a b : Int} (h : (a + 9223372036854775808) % 18446744073709551616 - 9223372036854775808 = b) : AV.int .i64 (IntKind.i64.wrap a) = AV.int .i64 b := by
  rw [IntKind.wrap_i64, h]

end Go.Ab
namespace Go.Ab
open Go
def SB := (And.intro (And.intro (And.intro (And.intro @go_mk @mkT_nil) (And.intro @mkT_cons @mkH_nil)) (And.intro (And.intro @mkH_cons @v8_and) (And.intro @v8_or (And.intro @v8_xor @v8_andc)))) (And.intro (And.intro (And.intro @v8_orc @v8_xorc) (And.intro @v8_add (And.intro @v8_addc @v8_mul))) (And.intro (And.intro @v8_mulc @b_shl_c) (And.intro @b_shr_c (And.intro @v8_shl @v8_shr)))))
def SL := (And.intro (And.intro @allT_cons @allT_nil) (And.intro @allH_nil @allH_cons))
end Go.Ab
namespace Go.Ab
open Go
variable [Glob]
variable {P : Program}

/-! ### values that say less -/
def Sub (x y : AV) : Prop := ∀ (w : World) (S : Nat → Prop) (φ : Pm) (v : Value), Rel w S φ x v → Rel w S φ y v
theorem Sub.rfl' (x : AV) : Sub x x := fun _ _ _ _ h => h
theorem Sub.trans {x y z : AV} (h : Sub x y) (h' : Sub y z) : Sub x z := fun w S φ v r => h' w S φ v (h w S φ v r)
theorem sub_nils (sz : Nat) : Sub .nils (.sl sz []) := fun _ _ _ _ h => by cases h; exact .slnil
theorem sub_bot (x : AV) : Sub x .bot := fun _ _ _ _ _ => .bot
inductive SubL : List AV → List AV → Prop
  | nil : SubL [] []
  | cons {x y xs ys} : Sub x y → SubL xs ys → SubL (x :: xs) (y :: ys)
theorem SubL.refl : ∀ xs, SubL xs xs
  | [] => .nil
  | x :: xs => .cons (Sub.rfl' x) (SubL.refl xs)
theorem SubL.len {xs ys : List AV} (h : SubL xs ys) : ys.length = xs.length := by
  induction h with
  | nil => rfl
  | cons _ _ ih => simp [ih]
theorem SubL.get {xs ys : List AV} (h : SubL xs ys) : ∀ i (h1 : i < xs.length) (h2 : i < ys.length), Sub xs[i] ys[i] := by
  induction h with
  | nil => intro i h1; simp at h1
  | cons h _ ih =>
    intro i h1 h2
    cases i with
    | zero => exact h
    | succ i => exact ih i (by simpa using h1) (by simpa using h2)
theorem SubL.rel {xs ys : List AV} (h : SubL xs ys) {w : World} {S : Nat → Prop} {φ : Pm} {vs : Array Value} (h1 : xs.length = vs.size) (h2 : ∀ i (h : i < xs.length) (h' : i < vs.size), Rel w S φ xs[i] vs[i]) :
    ys.length = vs.size ∧ ∀ i (h : i < ys.length) (h' : i < vs.size), Rel w S φ ys[i] vs[i] :=
  ⟨by rw [h.len, h1], fun i hi hi' => h.get i (by rw [← h.len]; exact hi) hi _ _ _ _ (h2 i (by rw [← h.len]; exact hi) hi')⟩
theorem sub_tup {xs ys : List AV} (h : SubL xs ys) : Sub (.tup xs) (.tup ys) := fun _ _ _ _ r => by
  cases r with | tup h1 h2 => obtain ⟨a, b⟩ := h.rel h1 h2; exact .tup a b
theorem sub_agg {xs ys : List AV} (h : SubL xs ys) : Sub (.agg xs) (.agg ys) := fun _ _ _ _ r => by
  cases r with | agg h1 h2 => obtain ⟨a, b⟩ := h.rel h1 h2; exact .agg a b
theorem sub_iface {t : TypeId} {x y : AV} (h : Sub x y) : Sub (.iface t x) (.iface t y) := fun _ _ _ _ r => by
  cases r with | iface r => exact .iface (h _ _ _ _ r)

theorem ACall.sub {f : FuncId} {args args' : List AV} {h : Nat → AObj} {n : Nat} {Q : AV → (Nat → AObj) → Nat → Prop} (hc : ACall P f args' h n Q) (hs : SubL args args') : ACall P f args h n Q :=
  ⟨hc.1, fun w S φ vs H hl hr => by
    obtain ⟨a, b⟩ := hs.rel hl fun j h1 h2 => hr j h1 h2
    exact hc.2 w S φ vs H a fun j h1 h2 => b j h1 h2⟩

/-! ### freezing -/
theorem frz_heap {s : AS} {w : World} {S : Nat → Prop} {φ : Pm} {x y : AV} {us : List W} (H : HeapOK w S φ s.h s.n) (e : (frzX x).run s = some (y, us)) :
    ∃ S', HeapOK w S' φ (s.app us).h s.n ∧ GStep w S φ s.h w S' φ (s.app us).h ∧ (∀ v, Rel w S φ x v → Rel w S' φ y v) ∧ (∀ z v, Rel w S φ z v → Rel w S' φ z v) ∧ (s.app us).t = s.t ∧ (s.app us).n = s.n := by
  obtain ⟨a1, a2⟩ := frzX_ok e
  obtain ⟨S1, H1, T1⟩ := freezeAll2 H a1
  obtain ⟨b1, b2⟩ := app_frz2 a1
  exact ⟨S1, H1, T1.g, fun v hx => a2 H1 T1.sub b1 b2 hx, fun z v hz => T1.rel H hz, app_t (VF2_HW a1) s, app_n _ _⟩

def frzAll : List AV → AS → Option (List AV × AS)
  | [], s => some ([], s)
  | x :: xs, s => bO ((frzX x).run s) fun y => bO (frzAll xs (s.app y.2)) fun z => some (y.1 :: z.1, z.2)
theorem frzAll_nil (s : AS) : frzAll [] s = some ([], s) := rfl
theorem frzAll_cons (x : AV) (xs : List AV) (s : AS) : frzAll (x :: xs) s = bO ((frzX x).run s) fun y => bO (frzAll xs (s.app y.2)) fun z => some (y.1 :: z.1, z.2) := rfl
theorem frzAll_ok : ∀ {xs : List AV} {s s' : AS} {ys : List AV} {w : World} {S : Nat → Prop} {φ : Pm}, HeapOK w S φ s.h s.n → frzAll xs s = some (ys, s') →
    ∃ S', HeapOK w S' φ s'.h s.n ∧ GStep w S φ s.h w S' φ s'.h ∧ ys.length = xs.length ∧ (∀ i (h : i < xs.length) (h' : i < ys.length) v, Rel w S φ xs[i] v → Rel w S' φ ys[i] v) ∧ (∀ z v, Rel w S φ z v → Rel w S' φ z v) ∧ s'.t = s.t ∧ s'.n = s.n
  | [], s, s', ys, w, S, φ, H, e => by cases e; exact ⟨S, H, GStep.refl _ _ _ _, rfl, fun i h => by simp at h, fun _ _ h => h, rfl, rfl⟩
  | x :: xs, s, s', ys, w, S, φ, H, e => by
    rw [frzAll_cons] at e
    cases h1 : (frzX x).run s with
    | none => rw [h1] at e; cases e
    | some y =>
      obtain ⟨y, us⟩ := y
      rw [h1, bO_some] at e
      dsimp only at e
      cases h2 : frzAll xs (s.app us) with
      | none => rw [h2] at e; cases e
      | some z =>
        obtain ⟨zs, s2⟩ := z
        rw [h2, bO_some] at e
        cases e
        obtain ⟨S1, H1, T1, r1, r2, e1, e2⟩ := frz_heap H h1
        obtain ⟨S2, H2, T2, l2, r3, r4, e3, e4⟩ := frzAll_ok (s := s.app us) (S := S1) (by rw [e2]; exact H1) h2
        refine ⟨S2, by rw [e2] at H2; exact H2, T1.trans T2, by simp [l2], fun i hi hi' v hv => ?_, fun z v hz => r4 z v (r2 z v hz), by rw [e3, e1], by rw [e4, e2]⟩
        cases i with
        | zero => exact r4 _ _ (r1 v hv)
        | succ i => exact r3 i (by simpa using hi) (by simpa using hi') v (r2 _ _ hv)

/-- A call that leads to no memory of its caller's, of what is frozen first. -/
theorem APure.callF {f : FuncId} {args ys args' : List AV} {r : AV} {s s' : AS} {Q : AV → (Nat → AObj) → Nat → Prop} (hp : APure P f args' r) (e : frzAll args s = some (ys, s')) (hs : SubL ys args') (ha : ltL 0 args')
    (hq : Q r s'.h s'.n) : ACall P f args s.h s.n Q := by
  refine ⟨hp.1, fun w S φ vs H hl hr => ?_⟩
  obtain ⟨S1, H1, T1, l1, r1, _, _, en⟩ := frzAll_ok H e
  obtain ⟨a, b⟩ := hs.rel (w := w) (S := S1) (φ := φ) (vs := vs) (by rw [l1, hl]) fun i h h' => r1 i (by rw [← l1]; exact h) h _ (hr i (by rw [← l1]; exact h) h')
  refine (hp.callX ha H1 a fun j h1 h2 => b j h1 h2).mono ?_
  rintro e w' ⟨v, S', rfl, h1, h2, h3⟩
  exact ⟨v, r, s'.h, s'.n, φ, S', rfl, hq, by rw [en]; exact h1, by omega, T1.trans h2, h3⟩

/-- the end of a walk: the result is frozen, and may say less -/
def finE (P : Program) (r : AV) (r' : AV) (h : Nat → AObj) (n : Nat) : Prop :=
  oK ((frzX r').run ⟨botT, h, n⟩) fun y _ => Sub y r ∧ r.lt 0
theorem ACall.fin {f : FuncId} {args : List AV} {r : AV} (hc : ACall P f args dead 0 (finE P r)) : APure P f args r := by
  refine ⟨hc.1, fun w S φ vs H hl hr => (hc.2 w S φ vs H hl hr).mono ?_⟩
  rintro e w' ⟨v, r', h', n', φ', S', rfl, q, H', hn, G, R⟩
  unfold finE oK at q
  split at q
  · rename_i y us e
    obtain ⟨S1, H1, T1, r1, _, _, en⟩ := frz_heap (s := ⟨botT, h', n'⟩) H' e
    exact ⟨v, r, _, n', φ', S1, rfl, ⟨rfl, q.2⟩, H1, hn, G.trans T1, q.1 _ _ _ _ (r1 _ R)⟩
  · exact q.elim
theorem apure_fin (hm : P.follows .mixedOrders = true) {f : FuncId} {fn : Func} {c : Code} {args : List AV} {r : AV} {nt : Nat} {rs : Array ResultVar} (z : List Nat) (fuel : Nat)
    (hf : P.funcs[f]? = some fn) (ht : fn.ntmps = nt) (hr : fn.results = rs) (hn : (fn.name == "runtime.NumGoroutine") = false) (hb : fn.body = some c) (hl : args.length ≤ nt) (hc : codeOk nt c = true)
    (hw : go P nt 0 z (bodyQ P rs (finE P r)) fuel c [] ⟨argT args, dead, 0⟩) : APure P f args r :=
  (acall_go hm z fuel hf ht hr hn hb hl hc hw).fin

/-- a call that is made once its arguments are frozen -/
theorem callL_F {z : List Nat} {ops : Array Oper} {K : AS → Prop} {rest : List Oper} {s s' : AS} {d : Option Tmp} {f : FuncId} {args ys args' : List AV} {r : AV} (hp : APure P f args' r)
    (e : frzAll args s = some (ys, s')) (hs : SubL ys args') (ha : ltL 0 args')
    (hk : oK (fzR (zf z d) r s') fun v ws => wpL P z ops K rest ((s'.app ws).put d v)) (et : s'.t = s.t) :
    ACall P f args s.h s.n fun r' h' n' => oK (fzR (zf z d) r' { s with h := h', n := n' }) fun v ws => wpL P z ops K rest ((({ s with h := h', n := n' } : AS).app ws).put d v) := by
  refine hp.callF e hs ha ?_
  have : ({ s with h := s'.h, n := s'.n } : AS) = s' := by cases s'; simp only at et; subst et; rfl
  rw [this]; exact hk

/-! ### ahead of a loop: a nil slice as a row -/
theorem R.row0 {E : Ent} {nt : Nat} {s : AS} {φ : Pm} {S : Nat → Prop} {a : Act} {w : World} (r : R E nt s φ S a w) (sz t : Nat) (ht : s.t t = .nils) :
    ∃ φ', R E nt ⟨upd s.t t (.row s.n 0 0 0), upd s.h s.n (.row sz 0 []), s.n + 1⟩ φ' S a w := by
  obtain ⟨φ', H', T, hk⟩ := r.hp.nilRow s.n (s.n + 1) (Nat.le_succ _) (Nat.lt_succ_self _) sz 0 (.inl ⟨r.hp.new _ (Nat.le_refl _), rfl⟩)
  have r' := r.heap (Nat.le_succ _) H' T.g
  refine ⟨φ', r'.sz, r'.df, fun i => ?_, r'.hp, r'.st, r'.en, r'.eh⟩
  by_cases e : i = t
  · subst e
    have := r.ts i
    rw [ht] at this
    simp only [upd_same]
    generalize a.tmps.getD i undef = v at this
    cases this
    exact .rownil hk
  · simp only [upd_ne _ _ e]; exact r'.ts i
theorem loopG_row0 {nt b : Nat} {z : List Nat} {Q : AEx → AS → Prop} {c : Code} {ks : List Kt} {s : AS} (sz t : Nat) (ht : s.t t = .nils)
    (h : LoopG P nt b z Q c ks ⟨upd s.t t (.row s.n 0 0 0), upd s.h s.n (.row sz 0 []), s.n + 1⟩) : LoopG P nt b z Q c ks s :=
  ⟨rfl, fun E φ S a w he r => by obtain ⟨φ', r'⟩ := r.row0 sz t ht; exact h.2 E φ' S a w he r'⟩
/-- a temporary that is said less of -/
theorem loopG_sub {nt b : Nat} {z : List Nat} {Q : AEx → AS → Prop} {c : Code} {ks : List Kt} {s : AS} (t : Nat) (y : AV) (ht : Sub (s.t t) y)
    (h : LoopG P nt b z Q c ks ⟨upd s.t t y, s.h, s.n⟩) : LoopG P nt b z Q c ks s :=
  ⟨rfl, fun E φ S a w he r => h.2 E φ S a w he ⟨r.sz, r.df, fun i => by
    by_cases e : i = t
    · subst e; simp only [upd_same]; exact ht _ _ _ _ (r.ts i)
    · simp only [upd_ne _ _ e]; exact r.ts i, r.hp, r.st, r.en, r.eh⟩⟩

end Go.Ab
namespace Go.Ab
open Go
variable [Glob]
variable {P : Program}

section
variable {g : Code → List Kt → AS → Prop} {x y : Code} {ks : List Kt} {s : AS}
theorem condG_b {p : Bool} (h1 : p = true → g x ks s) (h2 : p = false → g y ks s) : condG (.bool p) g x y ks s := ⟨h1, h2⟩
end
section
variable {z : List Nat} {ops : Array Oper} {K : AS → Prop} {op : Op} {rest : List Oper} {d : Option Tmp} {s : AS} {KD : List Rec → AS → Prop} {acc : List Rec}
theorem gL_b {p : Bool} (h1 : p = true → gL (some true) P z ops K op rest s d) (h2 : p = false → gL (some false) P z ops K op rest s d) : gL (some p) P z ops K op rest s d := by
  cases p
  · exact h2 rfl
  · exact h1 rfl
theorem gD_b {p : Bool} (h1 : p = true → gD (some true) P z ops KD op rest acc s d) (h2 : p = false → gD (some false) P z ops KD op rest acc s d) : gD (some p) P z ops KD op rest acc s d := by
  cases p
  · exact h2 rfl
  · exact h1 rfl
end

theorem cut_eq (cs : List AV) (off n : Nat) : cut cs off n = (cs.drop off).take n := rfl
theorem setL_nil (cs : List AV) (off : Nat) : setL cs off [] = cs := rfl
theorem setL_cons (cs : List AV) (off : Nat) (v : AV) (vs : List AV) : setL cs off (v :: vs) = setL (cs.set off v) (off + 1) vs := rfl
theorem getD_map_lt {α : Type} (f : α → List AV) (l : List α) (k : Nat) (h : k < l.length) : (l.map f).getD k [] = f l[k] := by
  simp [List.getD, h]
theorem getD_lt {α : Type} (l : List α) (k : Nat) (d : α) (h : k < l.length) : l.getD k d = l[k] := by simp [List.getD, h]
theorem i64_wrap (a : Int) (h : -9223372036854775808 ≤ a ∧ a ≤ 9223372036854775807) : IntKind.i64.wrap a = a := by
  rw [IntKind.wrap_i64]; omega
theorem i64_sub1 (k : Nat) (h : 0 < k) : (k : Int) - 1 = ((k - 1 : Nat) : Int) := by omega
theorem i64_add1 (k : Nat) : (k : Int) + 1 = ((k + 1 : Nat) : Int) := by omega
theorem i64_addn (k m : Nat) : (k : Int) + (m : Int) = ((k + m : Nat) : Int) := by omega
theorem i64_subn (k m : Nat) (h : m ≤ k) : (k : Int) - (m : Int) = ((k - m : Nat) : Int) := by omega
theorem toNat_cast (k : Nat) : Int.toNat (k : Int) = k := by omega
theorem b_shl_n (k k' : IntKind) (a : Int) (n : Nat) : abin .shl (.int k a) (.int k' ((n : Nat) : Int)) = some (.int k (k.wrap (a * 2 ^ (min n k.bits)))) :=
  b_shl k k' a ((n : Nat) : Int) (Int.natCast_nonneg n)
theorem b_shr_n (k k' : IntKind) (a : Int) (n : Nat) : abin .shr (.int k a) (.int k' ((n : Nat) : Int)) = some (.int k (a.fdiv (2 ^ (min n k.bits)))) :=
  b_shr k k' a ((n : Nat) : Int) (Int.natCast_nonneg n)

theorem oKs (v : AV) (ws : List W) (k : AV → List W → Prop) : oK (some (v, ws)) k = k v ws := rfl
section
variable {s : AS}
theorem frzX_bool (b : Bool) : (frzX (.bool b)).run s = some (.bool b, []) := frz1_bool b
theorem frzX_int (k : IntKind) (b : Int) : (frzX (.int k b)).run s = some (.int k b, []) := frz1_int k b
theorem frzX_str (b : List UInt8) : (frzX (.str b)).run s = some (.str b, []) := frz1_str b
theorem frzX_cp (cs : List AV) : (frzX (.cp cs)).run s = some (.cp cs, []) := frz1_cp cs
theorem frzX_nili : (frzX .nili).run s = some (.nili, []) := frz1_nili
theorem frzX_nilp : (frzX .nilp).run s = some (.nilp, []) := frz1_nilp
theorem frz2_cp (cs : List AV) : (frz2 (.cp cs)).run s = some (.cp cs, []) := frz1_cp cs
theorem frz2_nilp : (frz2 .nilp).run s = some (.nilp, []) := frz1_nilp
end
theorem sub_eq {x y : AV} (h : x = y) : Sub x y := h ▸ Sub.rfl' x

/-! a text held against another, as one asks -/
theorem lnil_len (l : List UInt8) : decide (l = []) = decide (l.length = 0) := by cases l <;> simp

/-! ### bytes in texts -/
theorem encB_len (l : List UInt8) : (encB l).length = l.length := by simp [encB]

end Go.Ab
