/- Contracts: small functions over rows of integers. -/
import Derived.Test.YtlpkjcmiohppcaaFacts
set_option maxRecDepth 100000
set_option maxHeartbeats 4000000
set_option linter.unusedSimpArgs false
set_option linter.unusedVariables false
namespace Go.Proofs.Ytlpkjcmiohppcaa
open Go Go.Av
attribute [local irreducible] wpA OpK awp
attribute [local go_sem] eqAgg eqAggV buildQ placesOf buildCells List.toList_toArray vcQg gfind gfree gput un3_agg unI_int unB_bool unK_int guardU skipV resVs resV vcD vcD1 roH roOb ftNone ftAdd oneOrTup AV.detup AV.ren AV.ren2 AV.ren1 pos selH AObj.ren fitAll fit fit1 fit1s matchAll matchOb exIds AObj.excl Env.killp pastH setAll upId AObj.past AObj.back AV.killp AV.killp1 AV.killp2 Nat.sub_self Nat.lt_irrefl Bool.or_self vcOps vcOp vcQs vcQ dstOk quiet eff pcall plain valsOf ev ofConst argEnv List.lookup Nat.add_eq decide_true decide_false Env.put binV wrapTo unV convV loadQ indexQ callQ builtinQ rd rdI globC AObj.globC partAV isAggD isArrayD addrAdd boxE storeE storeCE makeE makeNE buildNE nestZero Cont.child Cont.setChild buildSliceE buildFold appendE appendNE nestApp appendV promoteH sliceE boundAV subObj asCells Value.oneCell' contZero Cont.sets Cont.app Cont.sub Cont.len Cont.esz Cont.cell Cont.cells Cont.flat AV.det AV.det1 guardV AObj.unview AObj.kill Env.kill AV.kill AV.kill1 AV.kill2 fits64 Option.getD_some Option.getD_none Option.map_some Option.map_none Option.bind_some List.map_cons List.map_nil List.getElem?_cons_zero List.getElem?_cons_succ List.getElem?_nil true_and and_true List.getElem?_toArray List.cons_append List.nil_append List.length_cons List.length_nil List.set_cons_zero List.set_cons_succ List.take_succ_cons List.take_zero List.drop_succ_cons List.drop_zero List.drop_nil List.take_nil List.contains_cons List.contains_nil List.elem_cons List.elem_nil Bool.not_true Bool.not_false Bool.false_eq_true Bool.or_false Bool.or_true Bool.and_true Bool.and_false Bool.true_and Bool.false_and List.all_cons List.all_nil List.size_toArray Nat.lt_add_one Nat.zero_lt_succ Nat.one_ne_zero Nat.zero_ne_one and_self List.replicate_succ List.replicate_zero Int.toNat_natCast Int.toNat_zero Value.cells false_implies true_implies forall_const Thn InBlk Nat.zero_add Nat.add_zero Int.zero_add tsz0 tby0 tz0 Try.underlying0 tsz1 tby1 tz1 Try.underlying1 tsz2 tby2 tz2 Try.underlying2 tsz3 tby3 tz3 Try.underlying3 tsz4 tby4 tz4 Try.underlying4 tsz5 tby5 tz5 Try.underlying5 tsz6 tby6 tz6 Try.underlying6 tsz7 tby7 tz7 Try.underlying7 fo7_0 fo7_1 fo7_2 fo7_3 tsz8 tby8 tz8 Try.underlying8 fo8_0 fo8_1 fo8_2 fo8_3 tsz9 tby9 Try.underlying9 tsz10 tby10 Try.underlying10 tsz12 tby12 tz12 Try.underlying12 tsz16 tby16 tz16 Try.underlying16 tsz17 tby17 tz17 Try.underlying17 tsz20 tby20 tz20 Try.underlying20 tsz21 tby21 tz21 Try.underlying21 tsz22 tby22 tz22 Try.underlying22 tsz23 tby23 tz23 Try.underlying23 tsz24 tby24 tz24 Try.underlying24 tsz27 tby27 tz27 Try.underlying27 tsz32 tby32 tz32 Try.underlying32 tsz36 tby36 tz36 Try.underlying36 tsz37 tby37 tz37 Try.underlying37 fo37_0 fo37_1 tsz38 tby38 tz38 Try.underlying38 fo38_0 fo38_1 tsz40 tby40 tz40 Try.underlying40 tsz42 tby42 tz42 Try.underlying42 tsz43 tby43 tz43 Try.underlying43 fo43_0 fo43_1 tsz44 tby44 tz44 Try.underlying44 fo44_0 fo44_1 tsz63 tby63 tz63 Try.underlying63 tsz70 tby70 tz70 Try.underlying70 peq70 fo70_0 fo70_1 fo70_2 tsz71 tby71 tz71 Try.underlying71 peq71 fo71_0 fo71_1 fo71_2 tsz84 tby84 tz84 Try.underlying84 tsz88 tby88 tz88 Try.underlying88 fo88_0 fo88_1 tsz89 tby89 tz89 Try.underlying89 fo89_0 fo89_1 tsz92 tby92 tz92 Try.underlying92 peq92 fo92_0 fo92_1 fo92_2 tsz106 tby106 tz106 Try.underlying106 tsz107 tby107 tz107 Try.underlying107 tsz108 tby108 tz108 Try.underlying108 tsz110 tby110 tz110 Try.underlying110 tsz111 tby111 tz111 Try.underlying111 tsz112 tby112 tz112 Try.underlying112 tsz113 tby113 tz113 Try.underlying113 tsz114 tby114 tz114 Try.underlying114 tsz115 tby115 tz115 Try.underlying115 tsz116 tby116 tz116 Try.underlying116 fo116_0 fo116_1 fo116_2 fo116_3 fo116_4 fo116_5 fo116_6 fo116_7 fo116_8 fo116_9 fo116_10 tsz117 tby117 tz117 Try.underlying117 fo117_0 fo117_1 fo117_2 fo117_3 fo117_4 fo117_5 fo117_6 fo117_7 fo117_8 fo117_9 fo117_10 tsz118 tby118 tz118 Try.underlying118
theorem c_spec_l1In (n lo hi : Int) :
    FnA Try.prog 48 [.v (.int .i64 n), .v (.int .i64 lo), .v (.int .i64 hi)] [] [] (fun x _ => x = .v (.bool (decide (lo ≤ n) && decide (n ≤ hi)))) := by
  refine FnA.of (N := 15) (pin := []) (rs := [.tmp 6]) Try.func48 rfl en48 rfl rfl (by simp) (by simp; try omega) ?_
  refine awp_seq fun K1 hK1 => ?_
  refine awp_region ftNoneOk ?_
  simp (maxSteps := 4000000) only [go_sem, Nat.reduceBEq, Nat.reduceLT, Nat.reduceAdd, Nat.reduceLeDiff, Nat.reduceSub, Nat.reduceEqDiff, Int.reduceToNat, reduceCtorEq, ↓reduceIte, ftNone]
  repeat' (first | refine And.intro ?_ ?_ | (intro hg; try simp at hg))
  all_goals first
    | refine hK1 _ _ ?_
    | exact trivial
    | omega
    | ((simp; omega))
  clear hK1
  refine awp_seq fun K2 hK2 => ?_
  refine awp_region ftNoneOk ?_
  simp (maxSteps := 4000000) only [go_sem, Nat.reduceBEq, Nat.reduceLT, Nat.reduceAdd, Nat.reduceLeDiff, Nat.reduceSub, Nat.reduceEqDiff, Int.reduceToNat, reduceCtorEq, ↓reduceIte, ftNone]
  repeat' (first | refine And.intro ?_ ?_ | (intro hg; try simp at hg))
  all_goals first
    | refine hK2 _ _ ?_
    | exact trivial
    | omega
    | ((simp; omega))
  all_goals
    clear hK2
    refine awp_keep [0, 1, 2, 6] (by simp only [keepE, List.map_cons, List.map_nil, List.lookup, Nat.reduceBEq, Option.getD_some, Option.getD_none]; exact rfl) ?_
    refine awp_ret ?_
    (try simp only [Thn, InBlk, ↓reduceIte, Nat.reduceEqDiff])
    refine ⟨by simp, _, [], (by simp only [go_sem, Nat.reduceBEq, Nat.reduceLT, Nat.reduceAdd, Nat.reduceLeDiff, Nat.reduceSub, Nat.reduceEqDiff, Int.reduceToNat, reduceCtorEq, ↓reduceIte]; exact rfl), ?_, ?_, ?_, ?_⟩
    · first | exact trivial | exact ⟨trivial, trivial⟩ | exact ⟨trivial, trivial, trivial⟩ | exact ⟨trivial, trivial, trivial, trivial⟩ | (simp only [allP, and_true, true_and]; done) | (simp only [allP, and_true, true_and]; omega)
    · simp [selOk, pos]
    · simp
    · simp only [go_sem, Nat.reduceBEq, Nat.reduceLT, Nat.reduceAdd, Nat.reduceLeDiff, Nat.reduceSub, Nat.reduceEqDiff, Int.reduceToNat, reduceCtorEq, ↓reduceIte]
      first | (simp_all; done) | (simp_all; intros; omega)
def l1InG : List Value → Option (Prop × Value)
  | [.int .i64 n, .int .i64 lo, .int .i64 hi] => some (True, .bool (decide (lo ≤ n) && decide (n ≤ hi)))
  | _ => none
theorem l1InP : PureF Try.prog 48 l1InG := PureF.of en48 fun vs q r hg hq => by
  unfold l1InG at hg
  split at hg
  · simp only [Option.some.injEq, Prod.mk.injEq] at hg
    obtain ⟨_, rfl⟩ := hg
    exact c_spec_l1In _ _ _
  · cases hg
def ft1 : FuncId → Option (List Value → Option (Prop × Value)) := ftAdd 48 l1InG ftNone
theorem ft1Ok : PTab Try.prog ft1 := ftAddOk l1InP ftNoneOk

end Go.Proofs.Ytlpkjcmiohppcaa
