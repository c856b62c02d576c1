/- The table of functions that only compute. -/
import Derived.Test.YteoedigfnfjopaaPu
set_option maxRecDepth 100000
set_option maxHeartbeats 4000000
set_option linter.unusedSimpArgs false
set_option linter.unusedVariables false
namespace Go.Proofs.Yteoedigfnfjopaa
open Go Go.Av
attribute [local irreducible] wpA OpK awp
attribute [local go_sem] eqAgg eqAggV buildQ placesOf buildCells List.toList_toArray vcQg gfind gfree gput un3_agg unI_int unB_bool unK_int guardU skipV resVs resV vcD vcD1 roH roOb ftNone ftAdd oneOrTup AV.detup AV.ren AV.ren2 AV.ren1 pos selH AObj.ren fitAll fit fit1 fit1s matchAll matchOb exIds AObj.excl Env.killp pastH setAll upId AObj.past AObj.back AV.killp AV.killp1 AV.killp2 Nat.sub_self Nat.lt_irrefl Bool.or_self vcOps vcOp vcQs vcQ dstOk quiet eff pcall calleeF plain valsOf ev ofConst argEnv List.lookup Nat.add_eq decide_true decide_false Env.put binV quoC isTwo_2 isTwo_1 isTwo_3 isTwo_4 isTwo_5 isTwo_6 isTwo_7 isTwo_8 isTwo_9 isTwo_10 isTwo_11 isTwo_12 isTwo_13 isTwo_14 isTwo_15 isTwo_16 isTwo_17 isTwo_20 isTwo_24 isTwo_32 isTwo_60 isTwo_64 isTwo_100 isTwo_128 isTwo_256 isTwo_1000 wrapTo unV convV loadQ indexQ callQ builtinQ rd rdI globC AObj.globC partAV isAggD isArrayD addrAdd boxE storeE storeXE storeCE storeGE storeFE storeAE storeHE allocAE buildME appendME lookupQ mapUpE plainVs isIfaceD ifaceQ assertQ List.all_cons aggQ arrD arrL arrL_map arrV makeE makeXE makeNE makeGE buildXE buildNE buildGE nestZero Cont.child Cont.setChild buildSliceE buildFold appendE appendXE appendNE appendGE Cont.setG nestApp appendV promoteH sliceE boundAV subObj asCells Value.oneCell' contZero Cont.sets Cont.app Cont.sub Cont.len Cont.esz Cont.cell Cont.cells Cont.flat AV.det AV.det1 guardV AObj.unview AObj.kill Env.kill AV.kill AV.kill1 AV.kill2 fits64 Option.getD_some Option.getD_none Option.map_some Option.map_none Option.bind_some List.map_cons List.map_nil List.getElem?_cons_zero List.getElem?_cons_succ List.getElem?_nil true_and and_true and_false false_and List.getElem?_toArray List.cons_append List.nil_append List.length_cons List.length_nil List.set_cons_zero List.set_cons_succ List.take_succ_cons List.take_zero List.drop_succ_cons List.drop_zero List.drop_nil List.take_nil List.contains_cons List.contains_nil List.elem_cons List.elem_nil Bool.not_true Bool.not_false Bool.false_eq_true Bool.or_false Bool.or_true Bool.and_true Bool.and_false Bool.true_and Bool.false_and List.all_cons List.all_nil List.size_toArray Nat.lt_add_one Nat.zero_lt_succ Nat.one_ne_zero Nat.zero_ne_one and_self List.replicate_succ List.replicate_zero Int.toNat_natCast Int.toNat_zero Value.cells false_implies true_implies forall_const Thn InBlk Nat.zero_add Nat.add_zero Int.zero_add tsz0 tby0 tz0 Try.underlying0 tsz1 tby1 tz1 Try.underlying1 tsz2 tby2 tz2 Try.underlying2 tsz3 tby3 tz3 Try.underlying3 tsz4 tby4 tz4 Try.underlying4 tsz5 tby5 tz5 Try.underlying5 tsz6 tby6 tz6 Try.underlying6 tsz7 tby7 tz7 Try.underlying7 fo7_0 fo7_1 fo7_2 fo7_3 tsz8 tby8 tz8 Try.underlying8 fo8_0 fo8_1 fo8_2 fo8_3 tsz9 tby9 Try.underlying9 tsz10 tby10 Try.underlying10 tsz12 tby12 tz12 Try.underlying12 tsz16 tby16 tz16 Try.underlying16 tsz17 tby17 tz17 Try.underlying17 tsz20 tby20 tz20 Try.underlying20 tsz21 tby21 tz21 Try.underlying21 tsz22 tby22 tz22 Try.underlying22 tsz23 tby23 tz23 Try.underlying23 tsz24 tby24 tz24 Try.underlying24 tsz25 tby25 tz25 Try.underlying25 fo25_0 fo25_1 fo25_2 fo25_3 tsz26 tby26 tz26 Try.underlying26 fo26_0 fo26_1 fo26_2 fo26_3 tsz28 tby28 tz28 Try.underlying28 fo28_0 fo28_1 tsz29 tby29 tz29 Try.underlying29 fo29_0 fo29_1 tsz30 tby30 tz30 Try.underlying30 tsz32 tby32 tz32 Try.underlying32 tsz33 tby33 tz33 Try.underlying33 fo33_0 fo33_1 fo33_2 fo33_3 tsz34 tby34 tz34 Try.underlying34 fo34_0 fo34_1 fo34_2 fo34_3 tsz40 tby40 tz40 Try.underlying40 tsz41 tby41 tz41 Try.underlying41 fo41_0 fo41_1 tsz44 tby44 tz44 Try.underlying44 tsz56 tby56 tz56 Try.underlying56 tsz61 tby61 tz61 Try.underlying61 peq61 fo61_0 fo61_1 fo61_2 tsz62 tby62 tz62 Try.underlying62 peq62 fo62_0 fo62_1 fo62_2 tsz64 tby64 tz64 Try.underlying64 peq64 fo64_0 fo64_1 fo64_2 tsz66 tby66 tz66 Try.underlying66 tsz67 tby67 tz67 Try.underlying67 tsz71 tby71 tz71 Try.underlying71 tsz72 tby72 tz72 Try.underlying72 tsz79 tby79 tz79 Try.underlying79 peq79 fo79_0 fo79_1 fo79_2 tsz80 tby80 tz80 Try.underlying80 peq80 fo80_0 fo80_1 fo80_2 tsz88 tby88 tz88 Try.underlying88 tsz89 tby89 tz89 Try.underlying89 fo89_0 tsz90 tby90 tz90 Try.underlying90 fo90_0 tsz95 tby95 tz95 Try.underlying95 tsz97 tby97 Try.underlying97 fo97_0 fo97_1 fo97_2 fo97_3 tsz98 tby98 Try.underlying98 fo98_0 fo98_1 fo98_2 fo98_3 tsz99 tby99 tz99 Try.underlying99 tsz100 tby100 tz100 Try.underlying100 tsz101 tby101 tz101 Try.underlying101 tsz102 tby102 tz102 Try.underlying102 tsz103 tby103 tz103 Try.underlying103 tsz104 tby104 tz104 Try.underlying104 tsz105 tby105 tz105 Try.underlying105 tsz106 tby106 tz106 Try.underlying106 tsz107 tby107 tz107 Try.underlying107 tsz108 tby108 tz108 Try.underlying108 tsz109 tby109 tz109 Try.underlying109 tsz110 tby110 tz110 Try.underlying110 fo110_0 fo110_1 fo110_2 fo110_3 fo110_4 fo110_5 fo110_6 fo110_7 fo110_8 fo110_9 fo110_10 tsz111 tby111 tz111 Try.underlying111 fo111_0 fo111_1 fo111_2 fo111_3 fo111_4 fo111_5 fo111_6 fo111_7 fo111_8 fo111_9 fo111_10 tsz113 tby113 tz113 Try.underlying113
def cmpMsgG : List Value → Option (Prop × Value)
  | [x0, x1] => (match un3 x0 with | some (a, b, c) => (match un3 x1 with | some (d, e, f) => some (True, .int .i64 (orF [cmpI a d, cmpI b e, cmpI c f])) | none => none) | none => none)
  | _ => none
theorem cmpMsgP : PureF Try.prog 71 cmpMsgG := PureF.of en71 fun vs q r hg hq => by
  unfold cmpMsgG at hg
  split at hg
  · rename_i x0 x1
    cases h0 : un3 x0 with
    | none => simp only [h0, reduceCtorEq] at hg
    | some r0 =>
      obtain ⟨a, b, c⟩ := r0
      simp only [h0] at hg
      have e0 := un3_spec h0
      subst e0
      cases h1 : un3 x1 with
      | none => simp only [h1, reduceCtorEq] at hg
      | some r1 =>
        obtain ⟨d, e, f⟩ := r1
        simp only [h1] at hg
        have e1 := un3_spec h1
        subst e1
        simp only [Option.some.injEq, Prod.mk.injEq] at hg
        obtain ⟨_, rfl⟩ := hg
        exact FnA.mono (c_impl_compareMessages _ _ _ _ _ _) (fun _ _ h => h)
  · cases hg
def ftC : FuncId → Option (List Value → Option (Prop × Value)) := (ftAdd 71 cmpMsgG (ftAdd 78 cmpIntG (ftAdd 80 isNaNG (ftAdd 53 l1InG ftNone))))
theorem ftCOk : PTab Try.prog ftC := (ftAddOk cmpMsgP (ftAddOk cmpIntP (ftAddOk isNaNP (ftAddOk l1InP ftNoneOk))))
end Go.Proofs.Yteoedigfnfjopaa
