/- The table of functions that only compute. -/
import Derived.Test.YtiladakokkhkoaaPu
set_option maxRecDepth 100000
set_option maxHeartbeats 4000000
set_option linter.unusedSimpArgs false
set_option linter.unusedVariables false
namespace Go.Proofs.Ytiladakokkhkoaa
open Go Go.Av
attribute [local irreducible] wpA OpK awp
attribute [local go_sem] eqAgg eqAggV buildQ placesOf buildCells List.toList_toArray vcQg gfind gfree gput un3_agg unI_int unB_bool unK_int guardU skipV resVs resV vcD vcD1 roH roOb ftNone ftAdd oneOrTup AV.detup AV.ren AV.ren2 AV.ren1 pos selH AObj.ren fitAll fit fit1 fit1s matchAll matchOb exIds AObj.excl Env.killp pastH setAll upId AObj.past AObj.back AV.killp AV.killp1 AV.killp2 Nat.sub_self Nat.lt_irrefl Bool.or_self vcOps vcOp vcQs vcQ dstOk quiet eff pcall calleeF plain valsOf ev ofConst argEnv List.lookup Nat.add_eq decide_true decide_false Env.put binV quoC isTwo_2 isTwo_1 isTwo_3 isTwo_4 isTwo_5 isTwo_6 isTwo_7 isTwo_8 isTwo_9 isTwo_10 isTwo_11 isTwo_12 isTwo_13 isTwo_14 isTwo_15 isTwo_16 isTwo_17 isTwo_20 isTwo_24 isTwo_32 isTwo_60 isTwo_64 isTwo_100 isTwo_128 isTwo_256 isTwo_1000 wrapTo unV convV loadQ indexQ callQ builtinQ rd rdI globC AObj.globC partAV isAggD isArrayD addrAdd boxE storeE storeXE storeCE storeGE storeFE storeAE storeHE allocAE buildME appendME lookupQ mapUpE plainVs isIfaceD ifaceQ assertQ List.all_cons aggQ arrD arrL arrL_map arrV makeE makeXE makeNE makeGE buildXE buildNE buildGE nestZero Cont.child Cont.setChild buildSliceE buildFold appendE appendXE appendNE appendGE Cont.setG nestApp appendV promoteH sliceE boundAV subObj asCells Value.oneCell' contZero Cont.sets Cont.app Cont.sub Cont.len Cont.esz Cont.cell Cont.cells Cont.flat AV.det AV.det1 guardV AObj.unview AObj.kill Env.kill AV.kill AV.kill1 AV.kill2 fits64 Option.getD_some Option.getD_none Option.map_some Option.map_none Option.bind_some List.map_cons List.map_nil List.getElem?_cons_zero List.getElem?_cons_succ List.getElem?_nil true_and and_true and_false false_and List.getElem?_toArray List.cons_append List.nil_append List.length_cons List.length_nil List.set_cons_zero List.set_cons_succ List.take_succ_cons List.take_zero List.drop_succ_cons List.drop_zero List.drop_nil List.take_nil List.contains_cons List.contains_nil List.elem_cons List.elem_nil Bool.not_true Bool.not_false Bool.false_eq_true Bool.or_false Bool.or_true Bool.and_true Bool.and_false Bool.true_and Bool.false_and List.all_cons List.all_nil List.size_toArray Nat.lt_add_one Nat.zero_lt_succ Nat.one_ne_zero Nat.zero_ne_one and_self List.replicate_succ List.replicate_zero Int.toNat_natCast Int.toNat_zero Value.cells false_implies true_implies forall_const Thn InBlk Nat.zero_add Nat.add_zero Int.zero_add tsz0 tby0 tz0 Try.underlying0 tsz1 tby1 tz1 Try.underlying1 tsz2 tby2 tz2 Try.underlying2 tsz3 tby3 tz3 Try.underlying3 tsz4 tby4 tz4 Try.underlying4 tsz5 tby5 tz5 Try.underlying5 tsz6 tby6 tz6 Try.underlying6 tsz7 tby7 tz7 Try.underlying7 fo7_0 fo7_1 fo7_2 fo7_3 tsz8 tby8 tz8 Try.underlying8 fo8_0 fo8_1 fo8_2 fo8_3 tsz9 tby9 Try.underlying9 tsz10 tby10 Try.underlying10 tsz12 tby12 tz12 Try.underlying12 tsz16 tby16 tz16 Try.underlying16 tsz17 tby17 tz17 Try.underlying17 tsz20 tby20 tz20 Try.underlying20 tsz21 tby21 tz21 Try.underlying21 tsz22 tby22 tz22 Try.underlying22 peq22 fo22_0 fo22_1 fo22_2 tsz23 tby23 tz23 Try.underlying23 peq23 fo23_0 fo23_1 fo23_2 tsz24 tby24 tz24 Try.underlying24 tsz25 tby25 tz25 Try.underlying25 tsz26 tby26 tz26 Try.underlying26 tsz27 tby27 tz27 Try.underlying27 fo27_0 fo27_1 fo27_2 fo27_3 tsz28 tby28 tz28 Try.underlying28 fo28_0 fo28_1 fo28_2 fo28_3 tsz30 tby30 tz30 Try.underlying30 tsz31 tby31 tz31 Try.underlying31 fo31_0 fo31_1 fo31_2 fo31_3 tsz32 tby32 tz32 Try.underlying32 fo32_0 fo32_1 fo32_2 fo32_3 tsz34 tby34 tz34 Try.underlying34 peq34 fo34_0 fo34_1 fo34_2 tsz40 tby40 tz40 Try.underlying40 tsz44 tby44 tz44 Try.underlying44 tsz56 tby56 tz56 Try.underlying56 tsz58 tby58 tz58 Try.underlying58 peq58 fo58_0 fo58_1 fo58_2 tsz59 tby59 tz59 Try.underlying59 peq59 fo59_0 fo59_1 fo59_2 tsz63 tby63 tz63 Try.underlying63 peq63 fo63_0 fo63_1 fo63_2 tsz67 tby67 tz67 Try.underlying67 tsz70 tby70 tz70 Try.underlying70 tsz74 tby74 tz74 Try.underlying74 tsz79 tby79 tz79 Try.underlying79 tsz80 tby80 tz80 Try.underlying80 tsz85 tby85 tz85 Try.underlying85 tsz88 tby88 tz88 Try.underlying88 tsz90 tby90 tz90 Try.underlying90 tsz96 tby96 tz96 Try.underlying96 tsz100 tby100 tz100 Try.underlying100 tsz104 tby104 tz104 Try.underlying104 tsz105 tby105 tz105 Try.underlying105 tsz111 tby111 tz111 Try.underlying111 tsz112 tby112 tz112 Try.underlying112 tsz113 tby113 tz113 Try.underlying113 tsz115 tby115 tz115 Try.underlying115 tsz116 tby116 tz116 Try.underlying116 tsz117 tby117 tz117 Try.underlying117 tsz118 tby118 tz118 Try.underlying118 tsz119 tby119 tz119 Try.underlying119 tsz120 tby120 tz120 Try.underlying120 tsz121 tby121 tz121 Try.underlying121 fo121_0 fo121_1 fo121_2 fo121_3 fo121_4 fo121_5 fo121_6 fo121_7 fo121_8 fo121_9 fo121_10 tsz122 tby122 tz122 Try.underlying122 fo122_0 fo122_1 fo122_2 fo122_3 fo122_4 fo122_5 fo122_6 fo122_7 fo122_8 fo122_9 fo122_10 tsz123 tby123 tz123 Try.underlying123
def cmpMsgG : List Value → Option (Prop × Value)
  | [x0, x1] => (match un3 x0 with | some (a, b, c) => (match un3 x1 with | some (d, e, f) => some (True, .int .i64 (orF [cmpI a d, cmpI b e, cmpI c f])) | none => none) | none => none)
  | _ => none
theorem cmpMsgP : PureF Try.prog 54 cmpMsgG := PureF.of en54 fun vs q r hg hq => by
  unfold cmpMsgG at hg
  split at hg
  · rename_i x0 x1
    cases h0 : un3 x0 with
    | none => simp only [h0, reduceCtorEq] at hg
    | some r0 =>
      obtain ⟨a, b, c⟩ := r0
      simp only [h0] at hg
      have e0 := un3_spec h0
      subst e0
      cases h1 : un3 x1 with
      | none => simp only [h1, reduceCtorEq] at hg
      | some r1 =>
        obtain ⟨d, e, f⟩ := r1
        simp only [h1] at hg
        have e1 := un3_spec h1
        subst e1
        simp only [Option.some.injEq, Prod.mk.injEq] at hg
        obtain ⟨_, rfl⟩ := hg
        exact FnA.mono (c_impl_compareMessages _ _ _ _ _ _) (fun _ _ h => h)
  · cases hg
def ftC : FuncId → Option (List Value → Option (Prop × Value)) := (ftAdd 54 cmpMsgG (ftAdd 62 cmpIntG (ftAdd 82 isNaNG (ftAdd 35 l1InG ftNone))))
theorem ftCOk : PTab Try.prog ftC := (ftAddOk cmpMsgP (ftAddOk cmpIntP (ftAddOk isNaNP (ftAddOk l1InP ftNoneOk))))
end Go.Proofs.Ytiladakokkhkoaa
