/- The table of functions that only compute. -/
import Derived.Test.YtdjckcedpnabpaaDoorPu
set_option maxRecDepth 100000
set_option maxHeartbeats 4000000
set_option linter.unusedSimpArgs false
set_option linter.unusedVariables false
namespace Go.Proofs.YtdjckcedpnabpaaDoor
open Go Go.Av
attribute [local irreducible] wpA OpK awp
attribute [local go_sem] eqAgg eqAggV buildQ placesOf buildCells List.toList_toArray vcQg gfind gfree gput un3_agg unI_int unB_bool unK_int guardU skipV resVs resV vcD vcD1 roH roOb ftNone ftAdd oneOrTup AV.detup AV.ren AV.ren2 AV.ren1 pos selH AObj.ren fitAll fit fit1 fit1s matchAll matchOb exIds AObj.excl Env.killp pastH setAll upId AObj.past AObj.back AV.killp AV.killp1 AV.killp2 Nat.sub_self Nat.lt_irrefl Bool.or_self vcOps vcOp vcQs vcQ dstOk quiet eff pcall calleeF plain valsOf ev ofConst argEnv List.lookup Nat.add_eq decide_true decide_false Env.put binV wrapTo unV convV loadQ indexQ callQ builtinQ rd rdI globC AObj.globC partAV isAggD isArrayD addrAdd boxE storeE storeCE makeE makeNE buildNE nestZero Cont.child Cont.setChild buildSliceE buildFold appendE appendNE nestApp appendV promoteH sliceE boundAV subObj asCells Value.oneCell' contZero Cont.sets Cont.app Cont.sub Cont.len Cont.esz Cont.cell Cont.cells Cont.flat AV.det AV.det1 guardV AObj.unview AObj.kill Env.kill AV.kill AV.kill1 AV.kill2 fits64 Option.getD_some Option.getD_none Option.map_some Option.map_none Option.bind_some List.map_cons List.map_nil List.getElem?_cons_zero List.getElem?_cons_succ List.getElem?_nil true_and and_true List.getElem?_toArray List.cons_append List.nil_append List.length_cons List.length_nil List.set_cons_zero List.set_cons_succ List.take_succ_cons List.take_zero List.drop_succ_cons List.drop_zero List.drop_nil List.take_nil List.contains_cons List.contains_nil List.elem_cons List.elem_nil Bool.not_true Bool.not_false Bool.false_eq_true Bool.or_false Bool.or_true Bool.and_true Bool.and_false Bool.true_and Bool.false_and List.all_cons List.all_nil List.size_toArray Nat.lt_add_one Nat.zero_lt_succ Nat.one_ne_zero Nat.zero_ne_one and_self List.replicate_succ List.replicate_zero Int.toNat_natCast Int.toNat_zero Value.cells false_implies true_implies forall_const Thn InBlk Nat.zero_add Nat.add_zero Int.zero_add tsz0 tby0 tz0 Tryd.underlying0 tsz1 tby1 tz1 Tryd.underlying1 tsz2 tby2 tz2 Tryd.underlying2 tsz3 tby3 tz3 Tryd.underlying3 tsz4 tby4 tz4 Tryd.underlying4 tsz5 tby5 tz5 Tryd.underlying5 tsz6 tby6 tz6 Tryd.underlying6 tsz7 tby7 tz7 Tryd.underlying7 fo7_0 fo7_1 fo7_2 fo7_3 tsz8 tby8 tz8 Tryd.underlying8 fo8_0 fo8_1 fo8_2 fo8_3 tsz9 tby9 Tryd.underlying9 tsz10 tby10 Tryd.underlying10 tsz12 tby12 tz12 Tryd.underlying12 tsz16 tby16 tz16 Tryd.underlying16 tsz17 tby17 tz17 Tryd.underlying17 tsz20 tby20 tz20 Tryd.underlying20 tsz21 tby21 tz21 Tryd.underlying21 tsz22 tby22 tz22 Tryd.underlying22 tsz23 tby23 tz23 Tryd.underlying23 tsz24 tby24 tz24 Tryd.underlying24 fo24_0 fo24_1 tsz25 tby25 tz25 Tryd.underlying25 fo25_0 fo25_1 tsz30 tby30 tz30 Tryd.underlying30 tsz32 tby32 tz32 Tryd.underlying32 tsz40 tby40 tz40 Tryd.underlying40 tsz44 tby44 tz44 Tryd.underlying44 tsz46 tby46 tz46 Tryd.underlying46 tsz50 tby50 tz50 Tryd.underlying50 peq50 fo50_0 fo50_1 fo50_2 tsz51 tby51 tz51 Tryd.underlying51 peq51 fo51_0 fo51_1 fo51_2 tsz53 tby53 tz53 Tryd.underlying53 tsz54 tby54 tz54 Tryd.underlying54 tsz55 tby55 tz55 Tryd.underlying55 tsz60 tby60 tz60 Tryd.underlying60 tsz69 tby69 tz69 Tryd.underlying69 tsz71 tby71 tz71 Tryd.underlying71 fo71_0 fo71_1 tsz72 tby72 tz72 Tryd.underlying72 fo72_0 fo72_1 tsz77 tby77 tz77 Tryd.underlying77 tsz81 tby81 tz81 Tryd.underlying81 tsz86 tby86 tz86 Tryd.underlying86 tsz87 tby87 tz87 Tryd.underlying87 tsz91 tby91 tz91 Tryd.underlying91 tsz94 tby94 tz94 Tryd.underlying94 tsz95 tby95 tz95 Tryd.underlying95 tsz96 tby96 tz96 Tryd.underlying96 tsz100 tby100 tz100 Tryd.underlying100 tsz102 tby102 tz102 Tryd.underlying102 tsz103 tby103 tz103 Tryd.underlying103 tsz108 tby108 tz108 Tryd.underlying108 tsz109 tby109 tz109 Tryd.underlying109 tsz110 tby110 tz110 Tryd.underlying110 tsz111 tby111 tz111 Tryd.underlying111 tsz112 tby112 tz112 Tryd.underlying112 tsz113 tby113 tz113 Tryd.underlying113 tsz114 tby114 tz114 Tryd.underlying114 tsz115 tby115 tz115 Tryd.underlying115 tsz116 tby116 tz116 Tryd.underlying116 tsz117 tby117 tz117 Tryd.underlying117 fo117_0 fo117_1 fo117_2 fo117_3 fo117_4 fo117_5 fo117_6 fo117_7 fo117_8 fo117_9 fo117_10 tsz118 tby118 tz118 Tryd.underlying118 fo118_0 fo118_1 fo118_2 fo118_3 fo118_4 fo118_5 fo118_6 fo118_7 fo118_8 fo118_9 fo118_10 tsz119 tby119 tz119 Tryd.underlying119
def cmpEndsG : List Value → Option (Prop × Value)
  | [x0, x1] => (match un3 x0 with | some (a, b, c) => (match un3 x1 with | some (d, e, f) => some (True, .int .i64 (orF [cmpI a d, cmpI b e])) | none => none) | none => none)
  | _ => none
theorem cmpEndsP : PureF Tryd.prog 45 cmpEndsG := PureF.of en45 fun vs q r hg hq => by
  unfold cmpEndsG at hg
  split at hg
  · rename_i x0 x1
    cases h0 : un3 x0 with
    | none => simp only [h0, reduceCtorEq] at hg
    | some r0 =>
      obtain ⟨a, b, c⟩ := r0
      simp only [h0] at hg
      have e0 := un3_spec h0
      subst e0
      cases h1 : un3 x1 with
      | none => simp only [h1, reduceCtorEq] at hg
      | some r1 =>
        obtain ⟨d, e, f⟩ := r1
        simp only [h1] at hg
        have e1 := un3_spec h1
        subst e1
        simp only [Option.some.injEq, Prod.mk.injEq] at hg
        obtain ⟨_, rfl⟩ := hg
        exact FnA.mono (c_impl_compareEnds _ _ _ _ _ _) (fun _ _ h => h)
  · cases hg
def ftC : FuncId → Option (List Value → Option (Prop × Value)) := (ftAdd 45 cmpEndsG (ftAdd 67 cmpIntG (ftAdd 83 isNaNG (ftAdd 59 l4BeforeG (ftAdd 49 l1InG ftNone)))))
theorem ftCOk : PTab Tryd.prog ftC := (ftAddOk cmpEndsP (ftAddOk cmpIntP (ftAddOk isNaNP (ftAddOk l4BeforeP (ftAddOk l1InP ftNoneOk)))))
end Go.Proofs.YtdjckcedpnabpaaDoor
