/- Contracts: small functions over rows of integers. -/
import Derived.Test.YtbdncdmkogbdhaaFacts
set_option maxRecDepth 100000
set_option maxHeartbeats 4000000
set_option linter.unusedSimpArgs false
set_option linter.unusedVariables false
namespace Go.Proofs.Ytbdncdmkogbdhaa
open Go Go.Av
attribute [local irreducible] wpA OpK awp
attribute [local go_sem] eqAgg eqAggV buildQ placesOf buildCells List.toList_toArray vcQg gfind gfree gput un3_agg unI_int unB_bool unK_int guardU skipV resVs resV vcD vcD1 roH roOb ftNone ftAdd oneOrTup AV.detup AV.ren AV.ren2 AV.ren1 pos selH AObj.ren fitAll fit fit1 fit1s matchAll matchOb exIds AObj.excl Env.killp pastH setAll upId AObj.past AObj.back AV.killp AV.killp1 AV.killp2 Nat.sub_self Nat.lt_irrefl Bool.or_self vcOps vcOp vcQs vcQ dstOk quiet eff pcall calleeF plain valsOf ev ofConst argEnv List.lookup Nat.add_eq decide_true decide_false Env.put binV quoC isTwo_2 isTwo_1 isTwo_3 isTwo_4 isTwo_5 isTwo_6 isTwo_7 isTwo_8 isTwo_9 isTwo_10 isTwo_11 isTwo_12 isTwo_13 isTwo_14 isTwo_15 isTwo_16 isTwo_17 isTwo_20 isTwo_24 isTwo_32 isTwo_60 isTwo_64 isTwo_100 isTwo_128 isTwo_256 isTwo_1000 wrapTo unV convV loadQ indexQ callQ builtinQ rd rdI globC AObj.globC partAV isAggD isArrayD addrAdd boxE storeE storeXE storeCE storeGE storeFE storeAE storeHE allocAE buildME appendME plainVs isIfaceD ifaceQ assertQ List.all_cons aggQ arrD arrL arrL_map arrV makeE makeXE makeNE makeGE buildXE buildNE buildGE nestZero Cont.child Cont.setChild buildSliceE buildFold appendE appendXE appendNE appendGE Cont.setG nestApp appendV promoteH sliceE boundAV subObj asCells Value.oneCell' contZero Cont.sets Cont.app Cont.sub Cont.len Cont.esz Cont.cell Cont.cells Cont.flat AV.det AV.det1 guardV AObj.unview AObj.kill Env.kill AV.kill AV.kill1 AV.kill2 fits64 Option.getD_some Option.getD_none Option.map_some Option.map_none Option.bind_some List.map_cons List.map_nil List.getElem?_cons_zero List.getElem?_cons_succ List.getElem?_nil true_and and_true and_false false_and List.getElem?_toArray List.cons_append List.nil_append List.length_cons List.length_nil List.set_cons_zero List.set_cons_succ List.take_succ_cons List.take_zero List.drop_succ_cons List.drop_zero List.drop_nil List.take_nil List.contains_cons List.contains_nil List.elem_cons List.elem_nil Bool.not_true Bool.not_false Bool.false_eq_true Bool.or_false Bool.or_true Bool.and_true Bool.and_false Bool.true_and Bool.false_and List.all_cons List.all_nil List.size_toArray Nat.lt_add_one Nat.zero_lt_succ Nat.one_ne_zero Nat.zero_ne_one and_self List.replicate_succ List.replicate_zero Int.toNat_natCast Int.toNat_zero Value.cells false_implies true_implies forall_const Thn InBlk Nat.zero_add Nat.add_zero Int.zero_add tsz0 tby0 tz0 Try.underlying0 tsz1 tby1 tz1 Try.underlying1 tsz2 tby2 tz2 Try.underlying2 tsz3 tby3 tz3 Try.underlying3 tsz4 tby4 tz4 Try.underlying4 tsz5 tby5 tz5 Try.underlying5 tsz6 tby6 tz6 Try.underlying6 tsz7 tby7 tz7 Try.underlying7 fo7_0 fo7_1 fo7_2 fo7_3 tsz8 tby8 tz8 Try.underlying8 fo8_0 fo8_1 fo8_2 fo8_3 tsz9 tby9 Try.underlying9 tsz10 tby10 Try.underlying10 tsz12 tby12 tz12 Try.underlying12 tsz16 tby16 tz16 Try.underlying16 tsz17 tby17 tz17 Try.underlying17 tsz20 tby20 tz20 Try.underlying20 tsz21 tby21 tz21 Try.underlying21 tsz22 tby22 tz22 Try.underlying22 tsz23 tby23 tz23 Try.underlying23 tsz24 tby24 tz24 Try.underlying24 fo24_0 fo24_1 tsz25 tby25 tz25 Try.underlying25 fo25_0 fo25_1 tsz26 tby26 tz26 Try.underlying26 tsz28 tby28 tz28 Try.underlying28 tsz32 tby32 tz32 Try.underlying32 tsz35 tby35 tz35 Try.underlying35 tsz40 tby40 tz40 Try.underlying40 tsz44 tby44 tz44 Try.underlying44 peq44 fo44_0 fo44_1 fo44_2 tsz45 tby45 tz45 Try.underlying45 peq45 fo45_0 fo45_1 fo45_2 tsz48 tby48 tz48 Try.underlying48 tsz52 tby52 tz52 Try.underlying52 fo52_0 fo52_1 tsz53 tby53 tz53 Try.underlying53 fo53_0 fo53_1 tsz55 tby55 tz55 Try.underlying55 tsz56 tby56 tz56 Try.underlying56 peq56 fo56_0 fo56_1 tsz57 tby57 tz57 Try.underlying57 peq57 fo57_0 fo57_1 tsz58 tby58 tz58 Try.underlying58 tsz59 tby59 tz59 Try.underlying59 tsz60 tby60 tz60 Try.underlying60 tsz61 tby61 tz61 Try.underlying61 tsz68 tby68 tz68 Try.underlying68 tsz72 tby72 tz72 Try.underlying72 tsz75 tby75 tz75 Try.underlying75 tsz76 tby76 tz76 Try.underlying76 tsz77 tby77 tz77 Try.underlying77 tsz79 tby79 tz79 Try.underlying79 tsz80 tby80 tz80 Try.underlying80 tsz83 tby83 tz83 Try.underlying83 tsz84 tby84 tz84 Try.underlying84 tsz88 tby88 tz88 Try.underlying88 tsz91 tby91 tz91 Try.underlying91 tsz93 tby93 tz93 Try.underlying93 tsz94 tby94 tz94 Try.underlying94 tsz95 tby95 tz95 Try.underlying95 tsz99 tby99 tz99 Try.underlying99 tsz101 tby101 tz101 Try.underlying101 tsz102 tby102 tz102 Try.underlying102 tsz107 tby107 tz107 Try.underlying107 tsz108 tby108 tz108 Try.underlying108 tsz109 tby109 tz109 Try.underlying109 tsz110 tby110 tz110 Try.underlying110 tsz111 tby111 tz111 Try.underlying111 tsz112 tby112 tz112 Try.underlying112 tsz113 tby113 tz113 Try.underlying113 tsz114 tby114 tz114 Try.underlying114 tsz115 tby115 tz115 Try.underlying115 tsz116 tby116 tz116 Try.underlying116 fo116_0 fo116_1 fo116_2 fo116_3 fo116_4 fo116_5 fo116_6 fo116_7 fo116_8 fo116_9 fo116_10 tsz117 tby117 tz117 Try.underlying117 fo117_0 fo117_1 fo117_2 fo117_3 fo117_4 fo117_5 fo117_6 fo117_7 fo117_8 fo117_9 fo117_10 tsz118 tby118 tz118 Try.underlying118
theorem c_spec_l1In (n lo hi : Int) :
    FnA Try.prog 17 [.v (.int .i64 n), .v (.int .i64 lo), .v (.int .i64 hi)] [] [] (fun x _ => x = .v (.bool (decide (lo ≤ n) && decide (n ≤ hi)))) := by
  refine FnA.of (N := 15) (pin := []) (rs := [.tmp 6]) Try.func17 rfl en17 rfl rfl (by simp) (by simp; try omega) ?_
  refine awp_seq fun K1 hK1 => ?_
  refine awp_region ftNoneOk ?_
  simp (maxSteps := 4000000) only [go_sem, Nat.reduceBEq, Nat.reduceLT, Nat.reduceAdd, Nat.reduceLeDiff, Nat.reduceSub, Nat.reduceEqDiff, Int.reduceToNat, reduceCtorEq, ↓reduceIte, ftNone]
  repeat' (first | refine And.intro ?_ ?_ | (intro hg; try simp at hg))
  all_goals first
    | refine hK1 _ _ ?_
    | exact trivial
    | omega
    | ((simp; omega))
  clear hK1
  refine awp_seq fun K2 hK2 => ?_
  refine awp_region ftNoneOk ?_
  simp (maxSteps := 4000000) only [go_sem, Nat.reduceBEq, Nat.reduceLT, Nat.reduceAdd, Nat.reduceLeDiff, Nat.reduceSub, Nat.reduceEqDiff, Int.reduceToNat, reduceCtorEq, ↓reduceIte, ftNone]
  repeat' (first | refine And.intro ?_ ?_ | (intro hg; try simp at hg))
  all_goals first
    | refine hK2 _ _ ?_
    | exact trivial
    | omega
    | ((simp; omega))
  all_goals
    clear hK2
    refine awp_keep [0, 1, 2, 6] (by simp only [keepE, List.map_cons, List.map_nil, List.lookup, Nat.reduceBEq, Option.getD_some, Option.getD_none]; exact rfl) ?_
    refine awp_ret ?_
    (try simp only [Thn, InBlk, ↓reduceIte, Nat.reduceEqDiff])
    refine ⟨by simp, _, [], (by simp only [go_sem, Nat.reduceBEq, Nat.reduceLT, Nat.reduceAdd, Nat.reduceLeDiff, Nat.reduceSub, Nat.reduceEqDiff, Int.reduceToNat, reduceCtorEq, ↓reduceIte]; exact rfl), ?_, ?_, ?_, ?_⟩
    · first | exact trivial | exact ⟨trivial, trivial⟩ | exact ⟨trivial, trivial, trivial⟩ | exact ⟨trivial, trivial, trivial, trivial⟩ | (simp only [allP, and_true, true_and]; done) | (simp only [allP, and_true, true_and]; omega)
    · simp [selOk, pos]
    · simp
    · simp only [go_sem, Nat.reduceBEq, Nat.reduceLT, Nat.reduceAdd, Nat.reduceLeDiff, Nat.reduceSub, Nat.reduceEqDiff, Int.reduceToNat, reduceCtorEq, ↓reduceIte]
      first | (simp_all; done) | (simp_all; intros; omega)
def l1InG : List Value → Option (Prop × Value)
  | [.int .i64 n, .int .i64 lo, .int .i64 hi] => some (True, .bool (decide (lo ≤ n) && decide (n ≤ hi)))
  | _ => none
theorem l1InP : PureF Try.prog 17 l1InG := PureF.of en17 fun vs q r hg hq => by
  unfold l1InG at hg
  split at hg
  · simp only [Option.some.injEq, Prod.mk.injEq] at hg
    obtain ⟨_, rfl⟩ := hg
    exact c_spec_l1In _ _ _
  · cases hg
def ft1 : FuncId → Option (List Value → Option (Prop × Value)) := ftAdd 17 l1InG ftNone
theorem ft1Ok : PTab Try.prog ft1 := ftAddOk l1InP ftNoneOk

end Go.Proofs.Ytbdncdmkogbdhaa
