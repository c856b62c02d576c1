/- The table of functions that only compute. -/
import Derived.Test.YtdjckcedpnabpaaPu
set_option maxRecDepth 100000
set_option maxHeartbeats 4000000
set_option linter.unusedSimpArgs false
set_option linter.unusedVariables false
namespace Go.Proofs.Ytdjckcedpnabpaa
open Go Go.Av
attribute [local irreducible] wpA OpK awp
attribute [local go_sem] eqAgg eqAggV buildQ placesOf buildCells List.toList_toArray vcQg gfind gfree gput un3_agg unI_int unB_bool unK_int guardU skipV resVs resV vcD vcD1 roH roOb ftNone ftAdd oneOrTup AV.detup AV.ren AV.ren2 AV.ren1 pos selH AObj.ren fitAll fit fit1 fit1s matchAll matchOb exIds AObj.excl Env.killp pastH setAll upId AObj.past AObj.back AV.killp AV.killp1 AV.killp2 Nat.sub_self Nat.lt_irrefl Bool.or_self vcOps vcOp vcQs vcQ dstOk quiet eff pcall calleeF plain valsOf ev ofConst argEnv List.lookup Nat.add_eq decide_true decide_false Env.put binV wrapTo unV convV loadQ indexQ callQ builtinQ rd rdI globC AObj.globC partAV isAggD isArrayD addrAdd boxE storeE storeCE makeE makeNE buildNE nestZero Cont.child Cont.setChild buildSliceE buildFold appendE appendNE nestApp appendV promoteH sliceE boundAV subObj asCells Value.oneCell' contZero Cont.sets Cont.app Cont.sub Cont.len Cont.esz Cont.cell Cont.cells Cont.flat AV.det AV.det1 guardV AObj.unview AObj.kill Env.kill AV.kill AV.kill1 AV.kill2 fits64 Option.getD_some Option.getD_none Option.map_some Option.map_none Option.bind_some List.map_cons List.map_nil List.getElem?_cons_zero List.getElem?_cons_succ List.getElem?_nil true_and and_true List.getElem?_toArray List.cons_append List.nil_append List.length_cons List.length_nil List.set_cons_zero List.set_cons_succ List.take_succ_cons List.take_zero List.drop_succ_cons List.drop_zero List.drop_nil List.take_nil List.contains_cons List.contains_nil List.elem_cons List.elem_nil Bool.not_true Bool.not_false Bool.false_eq_true Bool.or_false Bool.or_true Bool.and_true Bool.and_false Bool.true_and Bool.false_and List.all_cons List.all_nil List.size_toArray Nat.lt_add_one Nat.zero_lt_succ Nat.one_ne_zero Nat.zero_ne_one and_self List.replicate_succ List.replicate_zero Int.toNat_natCast Int.toNat_zero Value.cells false_implies true_implies forall_const Thn InBlk Nat.zero_add Nat.add_zero Int.zero_add tsz0 tby0 tz0 Try.underlying0 tsz1 tby1 tz1 Try.underlying1 tsz2 tby2 tz2 Try.underlying2 tsz3 tby3 tz3 Try.underlying3 tsz4 tby4 tz4 Try.underlying4 tsz5 tby5 tz5 Try.underlying5 tsz6 tby6 tz6 Try.underlying6 tsz7 tby7 tz7 Try.underlying7 fo7_0 fo7_1 fo7_2 fo7_3 tsz8 tby8 tz8 Try.underlying8 fo8_0 fo8_1 fo8_2 fo8_3 tsz9 tby9 Try.underlying9 tsz10 tby10 Try.underlying10 tsz12 tby12 tz12 Try.underlying12 tsz16 tby16 tz16 Try.underlying16 tsz17 tby17 tz17 Try.underlying17 tsz20 tby20 tz20 Try.underlying20 tsz21 tby21 tz21 Try.underlying21 tsz22 tby22 tz22 Try.underlying22 tsz23 tby23 tz23 Try.underlying23 tsz24 tby24 tz24 Try.underlying24 fo24_0 fo24_1 tsz25 tby25 tz25 Try.underlying25 fo25_0 fo25_1 tsz32 tby32 tz32 Try.underlying32 peq32 fo32_0 fo32_1 fo32_2 tsz33 tby33 tz33 Try.underlying33 peq33 fo33_0 fo33_1 fo33_2 tsz40 tby40 tz40 Try.underlying40 tsz42 tby42 tz42 Try.underlying42 tsz43 tby43 tz43 Try.underlying43 tsz44 tby44 tz44 Try.underlying44 tsz51 tby51 tz51 Try.underlying51 tsz55 tby55 tz55 Try.underlying55 tsz56 tby56 tz56 Try.underlying56 tsz74 tby74 tz74 Try.underlying74 fo74_0 fo74_1 tsz75 tby75 tz75 Try.underlying75 fo75_0 fo75_1 tsz79 tby79 tz79 Try.underlying79 tsz96 tby96 tz96 Try.underlying96 tsz97 tby97 tz97 Try.underlying97 tsz101 tby101 tz101 Try.underlying101 tsz104 tby104 tz104 Try.underlying104 tsz106 tby106 tz106 Try.underlying106 tsz114 tby114 tz114 Try.underlying114 tsz118 tby118 tz118 Try.underlying118 tsz121 tby121 tz121 Try.underlying121 tsz122 tby122 tz122 Try.underlying122 tsz127 tby127 tz127 Try.underlying127 tsz128 tby128 tz128 Try.underlying128 tsz129 tby129 tz129 Try.underlying129 tsz130 tby130 tz130 Try.underlying130 tsz131 tby131 tz131 Try.underlying131 tsz132 tby132 tz132 Try.underlying132 tsz133 tby133 tz133 Try.underlying133 tsz134 tby134 tz134 Try.underlying134 tsz135 tby135 tz135 Try.underlying135 tsz136 tby136 tz136 Try.underlying136 fo136_0 fo136_1 fo136_2 fo136_3 fo136_4 fo136_5 fo136_6 fo136_7 fo136_8 fo136_9 fo136_10 tsz137 tby137 tz137 Try.underlying137 fo137_0 fo137_1 fo137_2 fo137_3 fo137_4 fo137_5 fo137_6 fo137_7 fo137_8 fo137_9 fo137_10 tsz138 tby138 tz138 Try.underlying138
def cmpEndsG : List Value → Option (Prop × Value)
  | [x0, x1] => (match un3 x0 with | some (a, b, c) => (match un3 x1 with | some (d, e, f) => some (True, .int .i64 (orF [cmpI a d, cmpI b e])) | none => none) | none => none)
  | _ => none
theorem cmpEndsP : PureF Try.prog 31 cmpEndsG := PureF.of en31 fun vs q r hg hq => by
  unfold cmpEndsG at hg
  split at hg
  · rename_i x0 x1
    cases h0 : un3 x0 with
    | none => simp only [h0, reduceCtorEq] at hg
    | some r0 =>
      obtain ⟨a, b, c⟩ := r0
      simp only [h0] at hg
      have e0 := un3_spec h0
      subst e0
      cases h1 : un3 x1 with
      | none => simp only [h1, reduceCtorEq] at hg
      | some r1 =>
        obtain ⟨d, e, f⟩ := r1
        simp only [h1] at hg
        have e1 := un3_spec h1
        subst e1
        simp only [Option.some.injEq, Prod.mk.injEq] at hg
        obtain ⟨_, rfl⟩ := hg
        exact FnA.mono (c_impl_compareEnds _ _ _ _ _ _) (fun _ _ h => h)
  · cases hg
def ftC : FuncId → Option (List Value → Option (Prop × Value)) := (ftAdd 31 cmpEndsG (ftAdd 55 cmpIntG (ftAdd 74 isNaNG (ftAdd 35 l4BeforeG (ftAdd 34 l1InG ftNone)))))
theorem ftCOk : PTab Try.prog ftC := (ftAddOk cmpEndsP (ftAddOk cmpIntP (ftAddOk isNaNP (ftAddOk l4BeforeP (ftAddOk l1InP ftNoneOk)))))
end Go.Proofs.Ytdjckcedpnabpaa
