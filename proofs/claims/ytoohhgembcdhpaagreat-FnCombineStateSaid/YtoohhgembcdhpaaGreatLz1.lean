/- The code computes the functions that were taken out of it. -/
import Derived.Test.YtoohhgembcdhpaaGreatLzD
import Derived.Test.YtoohhgembcdhpaaGreatAvWt
set_option maxRecDepth 100000
set_option maxHeartbeats 4000000
set_option linter.unusedSimpArgs false
set_option linter.unusedVariables false
namespace Go.Proofs.YtoohhgembcdhpaaGreat
open Go Go.Av
attribute [local irreducible] wpA OpK awp
attribute [go_sem] vcCalls vcCall List.take_succ_cons List.take_zero List.drop_succ_cons List.drop_zero frs_nil frs_cons pw8_32 pw16_32 pw24_32 pw27_32 strQ eqAgg eqAggV buildQ placesOf buildCells List.toList_toArray vcQg gfind gfree gput un3_agg unI_int unB_bool unK_int guardU skipV resVs resV vcD_nil vcD_cons vcT_fin vcT_free vcT_one vcT_two opS vcD1 roH roOb ftNone ftAdd oneOrTup AV.detup AV.ren AV.ren2 AV.ren1 pos selH AObj.ren fitAll fit fit1 fit1s matchAll matchOb exIds AObj.excl Env.killp pastH setAll upId AObj.past AObj.back AV.killp AV.killp1 AV.killp2 Nat.sub_self Nat.lt_irrefl Bool.or_self vcOps vcOp vcQs vcQ dstOk quiet eff pcall calleeF plain valsOf ev ofConst argEnv List.lookup Nat.add_eq decide_true decide_false Env.put binV quoC isTwo_2 isTwo_1 isTwo_3 isTwo_4 isTwo_5 isTwo_6 isTwo_7 isTwo_8 isTwo_9 isTwo_10 isTwo_11 isTwo_12 isTwo_13 isTwo_14 isTwo_15 isTwo_16 isTwo_17 isTwo_20 isTwo_24 isTwo_32 isTwo_60 isTwo_64 isTwo_100 isTwo_128 isTwo_256 isTwo_1000 wrapTo unV convV loadQ indexQ callQ builtinQ rd rdI globC AObj.globC partAV isAggD isArrayD addrAdd boxE storeE storeXE storeCE storeGE storeFE storeAE storeHE allocAE buildME appendME lookupQ lookupI mapUpE mapUpI mapZ plainVs isIfaceD ifaceQ assertQ List.all_cons aggQ arrD arrL arrL_map arrV makeE makeXE makeNE makeGE buildXE buildNE buildGE nestZero Cont.child Cont.setChild buildSliceE buildFold appendE appendXE appendNE appendGE Cont.setG nestApp appendV promoteH sliceE boundAV subObj asCells Value.oneCell' contZero Cont.sets Cont.app Cont.sub Cont.len Cont.esz Cont.cell Cont.cells Cont.flat AV.det AV.det1 guardV AObj.unview AObj.kill Env.kill AV.kill AV.kill1 AV.kill2 fits64 Option.getD_some Option.getD_none Option.map_some Option.map_none Option.bind_some List.map_cons List.map_nil List.getElem?_cons_zero List.getElem?_cons_succ List.getElem?_nil true_and and_true and_false false_and List.getElem?_toArray List.cons_append List.nil_append List.length_cons List.length_nil List.set_cons_zero List.set_cons_succ List.take_succ_cons List.take_zero List.drop_succ_cons List.drop_zero List.drop_nil List.take_nil List.contains_cons List.contains_nil List.elem_cons List.elem_nil Bool.not_true Bool.not_false Bool.false_eq_true Bool.or_false Bool.or_true Bool.and_true Bool.and_false Bool.true_and Bool.false_and List.all_cons List.all_nil List.size_toArray Nat.lt_add_one Nat.zero_lt_succ Nat.one_ne_zero Nat.zero_ne_one and_self List.replicate_succ List.replicate_zero Int.toNat_natCast Int.toNat_zero Value.cells false_implies true_implies forall_const Thn InBlk Nat.zero_add Nat.add_zero Int.zero_add Ele Env.ren Option.some.injEq AV.v.injEq AV.sl.injEq AV.pp.injEq AV.ep.injEq AV.agg.injEq List.cons.injEq Value.int.injEq Value.bool.injEq Value.string.injEq true_or or_true or_false false_or Tryz.underlying0 Tryz.underlying1 Tryz.underlying2 Tryz.underlying3 Tryz.underlying4 Tryz.underlying5 Tryz.underlying6 Tryz.underlying7 Tryz.underlying8 Tryz.underlying9 Tryz.underlying10 Tryz.underlying12 Tryz.underlying16 Tryz.underlying17 Tryz.underlying20 Tryz.underlying21 Tryz.underlying22 Tryz.underlying23 Tryz.underlying24 Tryz.underlying25 Tryz.underlying26 Tryz.underlying27 Tryz.underlying28 Tryz.underlying30 Tryz.underlying32 Tryz.underlying35 Tryz.underlying36 Tryz.underlying37 Tryz.underlying38 Tryz.underlying40 Tryz.underlying41 Tryz.underlying44 Tryz.underlying45 Tryz.underlying46 Tryz.underlying48 Tryz.underlying50 Tryz.underlying52 Tryz.underlying53 Tryz.underlying55 Tryz.underlying56 Tryz.underlying58 Tryz.underlying60 Tryz.underlying61 Tryz.underlying62 Tryz.underlying63 Tryz.underlying64 Tryz.underlying65 Tryz.underlying67 Tryz.underlying68 Tryz.underlying69 Tryz.underlying77 Tryz.underlying81 Tryz.underlying82 Tryz.underlying84 Tryz.underlying86 Tryz.underlying89 Tryz.underlying95 Tryz.underlying96 Tryz.underlying99 Tryz.underlying101 Tryz.underlying105 Tryz.underlying107 Tryz.underlying108 Tryz.underlying109 Tryz.underlying110 Tryz.underlying111 Tryz.underlying112 Tryz.underlying115 Tryz.underlying116 Tryz.underlying119 Tryz.underlying121 Tryz.underlying127 Tryz.underlying129 Tryz.underlying130 Tryz.underlying131 Tryz.underlying132 Tryz.underlying133 Tryz.underlying134 Tryz.underlying135 Tryz.underlying136 Tryz.underlying137 Tryz.underlying147 Tryz.underlying148 Tryz.underlying156 Tryz.underlying163 Tryz.underlying167 Tryz.underlying171 Tryz.underlying172 Tryz.underlying178 Tryz.underlying179 Tryz.underlying180 Tryz.underlying182 Tryz.underlying183 Tryz.underlying184 Tryz.underlying185 Tryz.underlying186 Tryz.underlying187 Tryz.underlying188 Tryz.underlying189 Tryz.underlying192 Tryz.underlying195 Tryz.underlying196 Tryz.underlying198 Tryz.underlying199 Tryz.underlying202  ftC tf0 tf1 tf2 tf3 tf4 tf5 tf6 tf7 tf8 tf9 tf10
theorem k_insA (a0 : List (Int × Int × Int)) (a1 : Int) (a2 : List (Int × Int × Int)) {r : (List (Int × Int × Int)) × (List (Int × Int × Int))} (h : insA a0 a1 a2 = some r) :
 FnA Tryz.prog 49 [.sl 0, iV a1, .sl 1] [oT a0, oT a2] [] (fun x H => x = .sl 2 ∧ H = [.dead, oT r.2, oT r.1]) := by
 unfold insA at h
 refine FnA.ofA 95 [0, 1] [.tmp 6] Tryz.func49 en49 ?_
 refine awp_move 0 [(0, .sl 2), (1, iV a1), (2, .sl 1)] [.dead, oT a2, oT a0] (by rfl) (by rfl) (by exact rfl) ?_
 refine rg [] [] ?_
 replace ⟨p, h⟩ := k1 h
 refine rm [] [] [] [.view 2 (.trips ((a0.take a0.length).drop a1.toNat))] ?_
 refine rg [] [(7, iV (a2.length : Int))] ?_
 refine awp_seq fun K2 hK2 => ?_
 refine rg [] [(16, bV ((a2.length : Int) == 0))] ?_
 refine awp_if h ?_ ?_ <;> intro hc h
 ·refine rg [0, 1, 2, 7, 16] [(6, .sl 2)] ?_
  exact fr [0, 1, 2]
 refine sk hK2 ?_
 refine rg [16] [(8, iV (a0.length : Int))] ?_
 refine awp_seq fun K5 hK5 => ?_
 refine rg [] [(22, bV (a1 == (a0.length : Int)))] ?_
 refine awp_if h ?_ ?_ <;> intro hc h
 ·replace ⟨p, h⟩ := k1 h
  refine rm [0, 1, 2, 7, 8, 22] [(6, .sl 2)] [(2, oT (a0 ++ a2)), (0, .dead)] [] ?_
  exact fr [0, 1, 2]
 refine sk hK5 ?_
 refine awp_seq fun K7 hK7 => ?_
 cases h
end Go.Proofs.YtoohhgembcdhpaaGreat
