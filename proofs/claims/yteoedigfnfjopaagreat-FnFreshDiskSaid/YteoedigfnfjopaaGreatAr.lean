import Derived.Test.YteoedigfnfjopaaGreatFacts
set_option maxRecDepth 100000
set_option maxHeartbeats 4000000
set_option linter.unusedSimpArgs false
set_option linter.unusedVariables false
namespace Go.Proofs.YteoedigfnfjopaaGreat
open Go Go.Av
attribute [local irreducible] wpA OpK awp
attribute [local go_sem] strQ eqAgg eqAggV buildQ placesOf buildCells List.toList_toArray vcQg gfind gfree gput un3_agg unI_int unB_bool unK_int guardU skipV resVs resV vcD vcD1 roH roOb ftNone ftAdd oneOrTup AV.detup AV.ren AV.ren2 AV.ren1 pos selH AObj.ren fitAll fit fit1 fit1s matchAll matchOb exIds AObj.excl Env.killp pastH setAll upId AObj.past AObj.back AV.killp AV.killp1 AV.killp2 Nat.sub_self Nat.lt_irrefl Bool.or_self vcOps vcOp vcQs vcQ dstOk quiet eff pcall calleeF plain valsOf ev ofConst argEnv List.lookup Nat.add_eq decide_true decide_false Env.put binV quoC isTwo_2 isTwo_1 isTwo_3 isTwo_4 isTwo_5 isTwo_6 isTwo_7 isTwo_8 isTwo_9 isTwo_10 isTwo_11 isTwo_12 isTwo_13 isTwo_14 isTwo_15 isTwo_16 isTwo_17 isTwo_20 isTwo_24 isTwo_32 isTwo_60 isTwo_64 isTwo_100 isTwo_128 isTwo_256 isTwo_1000 wrapTo unV convV loadQ indexQ callQ builtinQ rd rdI globC AObj.globC partAV isAggD isArrayD addrAdd boxE storeE storeXE storeCE storeGE storeFE storeAE storeHE allocAE buildME appendME lookupQ lookupI mapUpE mapUpI mapZ plainVs isIfaceD ifaceQ assertQ List.all_cons aggQ arrD arrL arrL_map arrV makeE makeXE makeNE makeGE buildXE buildNE buildGE nestZero Cont.child Cont.setChild buildSliceE buildFold appendE appendXE appendNE appendGE Cont.setG nestApp appendV promoteH sliceE boundAV subObj asCells Value.oneCell' contZero Cont.sets Cont.app Cont.sub Cont.len Cont.esz Cont.cell Cont.cells Cont.flat AV.det AV.det1 guardV AObj.unview AObj.kill Env.kill AV.kill AV.kill1 AV.kill2 fits64 Option.getD_some Option.getD_none Option.map_some Option.map_none Option.bind_some List.map_cons List.map_nil List.getElem?_cons_zero List.getElem?_cons_succ List.getElem?_nil true_and and_true and_false false_and List.getElem?_toArray List.cons_append List.nil_append List.length_cons List.length_nil List.set_cons_zero List.set_cons_succ List.take_succ_cons List.take_zero List.drop_succ_cons List.drop_zero List.drop_nil List.take_nil List.contains_cons List.contains_nil List.elem_cons List.elem_nil Bool.not_true Bool.not_false Bool.false_eq_true Bool.or_false Bool.or_true Bool.and_true Bool.and_false Bool.true_and Bool.false_and List.all_cons List.all_nil List.size_toArray Nat.lt_add_one Nat.zero_lt_succ Nat.one_ne_zero Nat.zero_ne_one and_self List.replicate_succ List.replicate_zero Int.toNat_natCast Int.toNat_zero Value.cells false_implies true_implies forall_const Thn InBlk Nat.zero_add Nat.add_zero Int.zero_add Tryz.underlying0 Tryz.underlying1 Tryz.underlying2 Tryz.underlying3 Tryz.underlying4 Tryz.underlying5 Tryz.underlying6 Tryz.underlying7 Tryz.underlying8 Tryz.underlying9 Tryz.underlying10 Tryz.underlying12 Tryz.underlying16 Tryz.underlying17 Tryz.underlying20 Tryz.underlying21 Tryz.underlying22 Tryz.underlying23 Tryz.underlying24 Tryz.underlying25 Tryz.underlying26 Tryz.underlying27 Tryz.underlying29 Tryz.underlying30 Tryz.underlying31 Tryz.underlying32 Tryz.underlying35 Tryz.underlying37 Tryz.underlying40 Tryz.underlying44 Tryz.underlying46 Tryz.underlying50 Tryz.underlying52 Tryz.underlying53 Tryz.underlying54 Tryz.underlying55 Tryz.underlying56 Tryz.underlying57 Tryz.underlying66 Tryz.underlying67 Tryz.underlying72 Tryz.underlying73 Tryz.underlying74 Tryz.underlying78 Tryz.underlying79 Tryz.underlying89 Tryz.underlying90 Tryz.underlying91 Tryz.underlying97 Tryz.underlying98 Tryz.underlying99 Tryz.underlying100 Tryz.underlying101 Tryz.underlying102 Tryz.underlying103 Tryz.underlying104 Tryz.underlying105 Tryz.underlying108 Tryz.underlying110 Tryz.underlying111 Tryz.underlying114 Tryz.underlying115 Tryz.underlying116 Tryz.underlying117 Tryz.underlying118 Tryz.underlying119 Tryz.underlying122 Tryz.underlying123 Tryz.underlying131 Tryz.underlying133 Tryz.underlying135 Tryz.underlying136 Tryz.underlying145 Tryz.underlying146 Tryz.underlying147 Tryz.underlying149 Tryz.underlying150 Tryz.underlying151 Tryz.underlying152 Tryz.underlying153 Tryz.underlying154 Tryz.underlying155 Tryz.underlying156 Tryz.underlying157 Tryz.underlying158 tf0 tf1 tf2 tf3 tf4 tf5 tf6 tf7 tf8
theorem c_spec_l1In (n lo hi : Int) :
 FnA Tryz.prog 71 [.v (.int .i64 n), .v (.int .i64 lo), .v (.int .i64 hi)] [] [] (fun x _ => x = .v (.bool (decide (lo ≤ n) && decide (n ≤ hi)))) := by
 refine FnA.of (N := 15) (pin := []) (rs := [.tmp 6]) Tryz.func71 rfl en71 rfl rfl (by simp) (by simp; try omega) ?_
 refine awp_seq fun K1 hK1 => ?_
 refine awp_region ftNoneOk ?_
 simp (maxSteps := 4000000) only [go_sem, Nat.reduceBEq, Nat.reduceLT, Nat.reduceAdd, Nat.reduceLeDiff, Nat.reduceSub, Nat.reduceEqDiff, Int.reduceToNat, reduceCtorEq, ↓reduceIte, ftNone]
 repeat' (first | refine And.intro ?_ ?_ | (intro hg; try simp at hg))
 all_goals first
  | refine hK1 _ _ ?_
  | exact trivial
  | omega
  | ((simp; omega))
 clear hK1
 refine awp_seq fun K2 hK2 => ?_
 refine awp_region ftNoneOk ?_
 simp (maxSteps := 4000000) only [go_sem, Nat.reduceBEq, Nat.reduceLT, Nat.reduceAdd, Nat.reduceLeDiff, Nat.reduceSub, Nat.reduceEqDiff, Int.reduceToNat, reduceCtorEq, ↓reduceIte, ftNone]
 repeat' (first | refine And.intro ?_ ?_ | (intro hg; try simp at hg))
 all_goals first
  | refine hK2 _ _ ?_
  | exact trivial
  | omega
  | ((simp; omega))
 all_goals
  clear hK2
  refine awp_keep [0, 1, 2, 6] (by simp only [keepE, List.map_cons, List.map_nil, List.lookup, Nat.reduceBEq, Option.getD_some, Option.getD_none]; exact rfl) ?_
  refine awp_ret ?_
  (try simp only [Thn, InBlk, ↓reduceIte, Nat.reduceEqDiff])
  refine ⟨by simp, _, [], (by simp only [go_sem, Nat.reduceBEq, Nat.reduceLT, Nat.reduceAdd, Nat.reduceLeDiff, Nat.reduceSub, Nat.reduceEqDiff, Int.reduceToNat, reduceCtorEq, ↓reduceIte]; exact rfl), ?_, ?_, ?_, ?_⟩
  ·first | exact trivial | exact ⟨trivial, trivial⟩ | exact ⟨trivial, trivial, trivial⟩ | exact ⟨trivial, trivial, trivial, trivial⟩ | (simp only [allP, and_true, true_and]; done) | (simp only [allP, and_true, true_and]; omega)
  ·simp [selOk, pos]
  ·simp
  ·simp only [go_sem, Nat.reduceBEq, Nat.reduceLT, Nat.reduceAdd, Nat.reduceLeDiff, Nat.reduceSub, Nat.reduceEqDiff, Int.reduceToNat, reduceCtorEq, ↓reduceIte]
   first | (simp_all; done) | (simp_all; intros; omega)
def l1InG : List Value → Option (Prop × Value)
 | [.int .i64 n, .int .i64 lo, .int .i64 hi] => some (True, .bool (decide (lo ≤ n) && decide (n ≤ hi)))
 | _ => none
theorem l1InP : PureF Tryz.prog 71 l1InG := PureF.of en71 fun vs q r hg hq => by
 unfold l1InG at hg
 split at hg
 ·simp only [Option.some.injEq, Prod.mk.injEq] at hg
  obtain ⟨_, rfl⟩ := hg
  exact c_spec_l1In _ _ _
 ·cases hg
def ft1 : FuncId → Option (List Value → Option (Prop × Value)) := ftAdd 71 l1InG ftNone
theorem ft1Ok : PTab Tryz.prog ft1 := ftAddOk l1InP ftNoneOk
end Go.Proofs.YteoedigfnfjopaaGreat
