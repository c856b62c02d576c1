/- Contracts: small functions over rows of integers. -/
import Derived.Test.YtaogppnbeijjmaaDoorFacts
set_option maxRecDepth 100000
set_option maxHeartbeats 4000000
set_option linter.unusedSimpArgs false
set_option linter.unusedVariables false
namespace Go.Proofs.YtaogppnbeijjmaaDoor
open Go Go.Av
attribute [local irreducible] wpA OpK awp
attribute [local go_sem] eqAgg eqAggV buildQ placesOf buildCells List.toList_toArray vcQg gfind gfree gput un3_agg unI_int unB_bool unK_int guardU skipV resVs resV vcD vcD1 roH roOb ftNone ftAdd oneOrTup AV.detup AV.ren AV.ren2 AV.ren1 pos selH AObj.ren fitAll fit fit1 fit1s matchAll matchOb exIds AObj.excl Env.killp pastH setAll upId AObj.past AObj.back AV.killp AV.killp1 AV.killp2 Nat.sub_self Nat.lt_irrefl Bool.or_self vcOps vcOp vcQs vcQ dstOk quiet eff pcall calleeF plain valsOf ev ofConst argEnv List.lookup Nat.add_eq decide_true decide_false Env.put binV wrapTo unV convV loadQ indexQ callQ builtinQ rd rdI globC AObj.globC partAV isAggD isArrayD addrAdd boxE storeE storeCE makeE makeNE buildNE nestZero Cont.child Cont.setChild buildSliceE buildFold appendE appendNE nestApp appendV promoteH sliceE boundAV subObj asCells Value.oneCell' contZero Cont.sets Cont.app Cont.sub Cont.len Cont.esz Cont.cell Cont.cells Cont.flat AV.det AV.det1 guardV AObj.unview AObj.kill Env.kill AV.kill AV.kill1 AV.kill2 fits64 Option.getD_some Option.getD_none Option.map_some Option.map_none Option.bind_some List.map_cons List.map_nil List.getElem?_cons_zero List.getElem?_cons_succ List.getElem?_nil true_and and_true List.getElem?_toArray List.cons_append List.nil_append List.length_cons List.length_nil List.set_cons_zero List.set_cons_succ List.take_succ_cons List.take_zero List.drop_succ_cons List.drop_zero List.drop_nil List.take_nil List.contains_cons List.contains_nil List.elem_cons List.elem_nil Bool.not_true Bool.not_false Bool.false_eq_true Bool.or_false Bool.or_true Bool.and_true Bool.and_false Bool.true_and Bool.false_and List.all_cons List.all_nil List.size_toArray Nat.lt_add_one Nat.zero_lt_succ Nat.one_ne_zero Nat.zero_ne_one and_self List.replicate_succ List.replicate_zero Int.toNat_natCast Int.toNat_zero Value.cells false_implies true_implies forall_const Thn InBlk Nat.zero_add Nat.add_zero Int.zero_add tsz0 tby0 tz0 Tryd.underlying0 tsz1 tby1 tz1 Tryd.underlying1 tsz2 tby2 tz2 Tryd.underlying2 tsz3 tby3 tz3 Tryd.underlying3 tsz4 tby4 tz4 Tryd.underlying4 tsz5 tby5 tz5 Tryd.underlying5 tsz6 tby6 tz6 Tryd.underlying6 tsz7 tby7 tz7 Tryd.underlying7 fo7_0 fo7_1 fo7_2 fo7_3 tsz8 tby8 tz8 Tryd.underlying8 fo8_0 fo8_1 fo8_2 fo8_3 tsz9 tby9 Tryd.underlying9 tsz10 tby10 Tryd.underlying10 tsz12 tby12 tz12 Tryd.underlying12 tsz16 tby16 tz16 Tryd.underlying16 tsz17 tby17 tz17 Tryd.underlying17 tsz20 tby20 tz20 Tryd.underlying20 tsz21 tby21 tz21 Tryd.underlying21 tsz22 tby22 tz22 Tryd.underlying22 tsz23 tby23 tz23 Tryd.underlying23 tsz24 tby24 tz24 Tryd.underlying24 fo24_0 fo24_1 tsz25 tby25 tz25 Tryd.underlying25 fo25_0 fo25_1 tsz26 tby26 tz26 Tryd.underlying26 peq26 fo26_0 fo26_1 fo26_2 tsz27 tby27 tz27 Tryd.underlying27 peq27 fo27_0 fo27_1 fo27_2 tsz28 tby28 tz28 Tryd.underlying28 tsz30 tby30 tz30 Tryd.underlying30 tsz32 tby32 tz32 Tryd.underlying32 tsz34 tby34 tz34 Tryd.underlying34 tsz37 tby37 tz37 Tryd.underlying37 tsz40 tby40 tz40 Tryd.underlying40 tsz44 tby44 tz44 Tryd.underlying44 tsz46 tby46 tz46 Tryd.underlying46 tsz53 tby53 tz53 Tryd.underlying53 tsz55 tby55 tz55 Tryd.underlying55 fo55_0 fo55_1 tsz56 tby56 tz56 Tryd.underlying56 fo56_0 fo56_1 tsz57 tby57 tz57 Tryd.underlying57 tsz66 tby66 tz66 Tryd.underlying66 tsz67 tby67 tz67 Tryd.underlying67 tsz73 tby73 tz73 Tryd.underlying73 tsz77 tby77 tz77 Tryd.underlying77 tsz78 tby78 tz78 Tryd.underlying78 tsz79 tby79 tz79 Tryd.underlying79 tsz80 tby80 tz80 Tryd.underlying80 tsz81 tby81 tz81 Tryd.underlying81 tsz82 tby82 tz82 Tryd.underlying82 tsz83 tby83 tz83 Tryd.underlying83 tsz84 tby84 tz84 Tryd.underlying84 tsz85 tby85 tz85 Tryd.underlying85 tsz86 tby86 tz86 Tryd.underlying86 fo86_0 fo86_1 fo86_2 fo86_3 fo86_4 fo86_5 fo86_6 fo86_7 fo86_8 fo86_9 fo86_10 tsz87 tby87 tz87 Tryd.underlying87 fo87_0 fo87_1 fo87_2 fo87_3 fo87_4 fo87_5 fo87_6 fo87_7 fo87_8 fo87_9 fo87_10 tsz88 tby88 tz88 Tryd.underlying88
theorem c_spec_l1In (n lo hi : Int) :
    FnA Tryd.prog 32 [.v (.int .i64 n), .v (.int .i64 lo), .v (.int .i64 hi)] [] [] (fun x _ => x = .v (.bool (decide (lo ≤ n) && decide (n ≤ hi)))) := by
  refine FnA.of (N := 15) (pin := []) (rs := [.tmp 6]) Tryd.func32 rfl en32 rfl rfl (by simp) (by simp; try omega) ?_
  refine awp_seq fun K1 hK1 => ?_
  refine awp_region ftNoneOk ?_
  simp (maxSteps := 4000000) only [go_sem, Nat.reduceBEq, Nat.reduceLT, Nat.reduceAdd, Nat.reduceLeDiff, Nat.reduceSub, Nat.reduceEqDiff, Int.reduceToNat, reduceCtorEq, ↓reduceIte, ftNone]
  repeat' (first | refine And.intro ?_ ?_ | (intro hg; try simp at hg))
  all_goals first
    | refine hK1 _ _ ?_
    | exact trivial
    | omega
    | ((simp; omega))
  clear hK1
  refine awp_seq fun K2 hK2 => ?_
  refine awp_region ftNoneOk ?_
  simp (maxSteps := 4000000) only [go_sem, Nat.reduceBEq, Nat.reduceLT, Nat.reduceAdd, Nat.reduceLeDiff, Nat.reduceSub, Nat.reduceEqDiff, Int.reduceToNat, reduceCtorEq, ↓reduceIte, ftNone]
  repeat' (first | refine And.intro ?_ ?_ | (intro hg; try simp at hg))
  all_goals first
    | refine hK2 _ _ ?_
    | exact trivial
    | omega
    | ((simp; omega))
  all_goals
    clear hK2
    refine awp_keep [0, 1, 2, 6] (by simp only [keepE, List.map_cons, List.map_nil, List.lookup, Nat.reduceBEq, Option.getD_some, Option.getD_none]; exact rfl) ?_
    refine awp_ret ?_
    (try simp only [Thn, InBlk, ↓reduceIte, Nat.reduceEqDiff])
    refine ⟨by simp, _, [], (by simp only [go_sem, Nat.reduceBEq, Nat.reduceLT, Nat.reduceAdd, Nat.reduceLeDiff, Nat.reduceSub, Nat.reduceEqDiff, Int.reduceToNat, reduceCtorEq, ↓reduceIte]; exact rfl), ?_, ?_, ?_, ?_⟩
    · first | exact trivial | exact ⟨trivial, trivial⟩ | exact ⟨trivial, trivial, trivial⟩ | exact ⟨trivial, trivial, trivial, trivial⟩ | (simp only [allP, and_true, true_and]; done) | (simp only [allP, and_true, true_and]; omega)
    · simp [selOk, pos]
    · simp
    · simp only [go_sem, Nat.reduceBEq, Nat.reduceLT, Nat.reduceAdd, Nat.reduceLeDiff, Nat.reduceSub, Nat.reduceEqDiff, Int.reduceToNat, reduceCtorEq, ↓reduceIte]
      first | (simp_all; done) | (simp_all; intros; omega)
def l1InG : List Value → Option (Prop × Value)
  | [.int .i64 n, .int .i64 lo, .int .i64 hi] => some (True, .bool (decide (lo ≤ n) && decide (n ≤ hi)))
  | _ => none
theorem l1InP : PureF Tryd.prog 32 l1InG := PureF.of en32 fun vs q r hg hq => by
  unfold l1InG at hg
  split at hg
  · simp only [Option.some.injEq, Prod.mk.injEq] at hg
    obtain ⟨_, rfl⟩ := hg
    exact c_spec_l1In _ _ _
  · cases hg
def ft1 : FuncId → Option (List Value → Option (Prop × Value)) := ftAdd 32 l1InG ftNone
theorem ft1Ok : PTab Tryd.prog ft1 := ftAddOk l1InP ftNoneOk

end Go.Proofs.YtaogppnbeijjmaaDoor
