/- The names by which all walks are evaluated, as one set. -/
import Derived.Test.YtjbgnnggmngpcaaGreatDoorPgNd
import Derived.Test.YtjbgnnggmngpcaaGreatDoorPgYld4
import Derived.Test.YtjbgnnggmngpcaaGreatDoorPgGr
import Derived.Test.YtjbgnnggmngpcaaGreatDoorPgGx
import Derived.Test.YtjbgnnggmngpcaaGreatDoorPgHcd
import Derived.Attr
set_option linter.unusedVariables false
set_option linter.unusedSimpArgs false
set_option linter.unusedSectionVars false
namespace Go.Pg
open Go
variable [Syms]
attribute [go_sem ↓] blockA_exit blockA_normal blockA_ret callP callT callU callUF callUH callUV chk fixG heapK iselH_false iselH_true mapK msel oneK pureK sliceOwn
 sliceWin stepEv thenA_exit thenA_normal thenA_ret wpA_H wpH_block wpH_cond wpH_exit wpH_loop wpH_range wpH_region wpH_ret wpH_seq wpH_skip
attribute [go_sem] AO.arr.injEq AO.mp.injEq AV.agg.injEq AV.bool.injEq AV.cells AV.cst.injEq AV.definite AV.fn.injEq AV.int.injEq AV.leaf AV.leafy AV.mp.injEq
 AV.own.injEq AV.ptr.injEq AV.pureB AV.pureLeaf AV.rp.injEq AV.sl.injEq AV.str.injEq AV.win.injEq Array.toList_append Bool.and_false Bool.and_self
 Bool.and_true Bool.decide_eq_true Bool.false_eq_true Bool.false_or Bool.if_false_right Bool.if_true_left Bool.not_eq_true' Bool.not_false
 Bool.not_true Bool.or_false Bool.or_self Bool.or_true Bool.true_eq_false Bool.true_or C1by_H C1by_it C1by_mu C1by_ns C1by_pre C1by_r C1by_wn C1itBy_it
 C1itBy_mu C1itBy_pre C1itBy_wn C1itBy_xs C1itU_it C1itU_mu C1itU_pre C1itU_xs C1mby_hm C1mby_mu C1mby_rd C1mby_wn C1mx_hm C1mx_mu C1mx_rd C1mx_wn
 Call.operands Int.cast_ofNat_Int Int.not_le Int.not_lt Int.toNat_natCast List.all_cons List.all_nil List.append_assoc List.append_nil List.cons_append
 List.contains_cons List.contains_nil List.drop_nil List.drop_succ_cons List.drop_zero List.foldl_cons List.foldl_nil List.getD_cons_succ
 List.getD_cons_zero List.getD_nil List.getElem?_cons_succ List.getElem?_cons_zero List.getElem?_nil List.getElem?_toArray List.isEmpty_nil
 List.length_append List.length_cons List.length_map List.length_nil List.length_set List.map_cons List.map_nil List.nil_append List.range'_one
 List.range'_succ List.range'_zero List.range_zero List.set_cons_succ List.set_cons_zero List.set_nil List.take_nil List.take_succ_cons List.take_zero
 List.toList_toArray Nat.add_zero Nat.le_refl Nat.lt_irrefl Nat.mul_one Nat.mul_zero Nat.not_lt_zero Nat.one_mul Nat.sub_self Nat.sub_zero Nat.zero_add
 Nat.zero_le Nat.zero_lt_one Nat.zero_lt_succ Nat.zero_mul Op.operands Option.bind_none Option.bind_some Option.getD_none Option.getD_some
 Option.isSome_none Option.isSome_some Option.map_none Option.map_some Option.some.injEq Option.toArray_none Option.toArray_some Pg.freeze Pg.look
 Prod.mk.injEq TK.cells aliveO alives and_self and_true app1_ofBytes app1_str app3_some appK app_strs arrPlaces assocN beq_self_eq_true
 binK binV blankH_none blankL blankO_arr bne_self_eq_false bselH_false bselH_true buildL bytesOf_nil bytesOf_ofBytes cAgg_dec
 cAny_dec cBool_dec cByte_dec cFn_dec cInt_dec cRp_dec cSl_dec cStr_dec callC callH callV cellsEq closeQ_nil closeQ_succ closeQ_zero condsL
 consE_some consO_some cselH_bool cutL cutM cutV dec2_some decE_nil decL_byte decL_cons decL_nil decL_str decide_eq_false_iff_not
 decide_eq_true_eq delE diagQ_succ diagQ_zero drop_ofBytes dstOf encE_cons encE_nil envOf exists_eq_left exists_eq_left' false_implies
 fillH_none fillI fillJ blankI blankJ heldI hinL hinH fillL fillO_arr findE foldInts footV forall_const fresh frz0 frzA frzAt frzC frzE frzH frzL frzO getD_ofBytes
 getD_str gid gids gkind gof gselH_if gselH_plain gw hAgg_dec hB1_some hB2_arr hBox_dec hCons_dec hFn_dec hM1_mp hNil_dec hO1_some hO2_arr
 hOpt_npt hOr1_inl hOr1_inr hOwn_dec hOwn_nls hP1_some hP2_some hP_dec hS1_some hSk_dec hW1_some hW2_arr hWin_dec hasE hdS heapV
 heldB_none heldO_arr hmC imp_self implies_true intOp intV isKeyA isNext iselH_if ite_false ite_true iterC justK kdT keyB keysE_cons
 keysE_nil kselH_0 kselH_1 kselH_2 lCons_dec lNil_dec lOne_dec lay ldCells leafEq leafy_bytes leafy_strs length_ofBytes livesAt_eq livesO_arr
 livesO_mp lookV look_stripE mapAt mergeK mergeable mkM_some muC mux neL_cons ne_eq nextA_it nextF nextG nextM_enc noW nodupB normA normArgs normC
 normE normL not_false_eq_true not_mem_nil not_true_eq_false nsel_false nsel_true nxtQ objAt ofLeaf ofV opnd optH_some optL_some optP_some optU_some
 optV_some or_true pairs0 pairsA pairsC pairsE pairsL pairsO parE_cons parE_nil pickC pickF pickO pickOK_nil pickOK_one pickOf pickV ptrId_ptr ptrsE
 pureB_bytes pureB_strs pureC putCells putO rangH_fn rangR_some rdC rdSel_false rdSel_true regH_none regH_some ren renL renO res8_eq resIn resK resL
 resM res_succ retA roA_cons roA_nil roA_skip roL_cons roL_nil roOK_false roOK_true rqH_exit rqH_normal rqH_ret
 runH_cons runH_nil runM_eq sameK sameL selC_false selC_true setE setG shift1 shiftR slen sliceL sliceS somes srcE srcL
 srcV strOp strV subA subEv subF subG subL subM subO subOs subQ subV_succ take_ofBytes true_and true_implies true_or tupA unc valV winB winC wsel_false
 wsel_true
attribute [go_sem ←] List.map_drop List.map_take
end Go.Pg
