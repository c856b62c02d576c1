/- The code computes the functions that were taken out of it. -/
import Derived.Test.YtaogppnbeijjmaaLaD
set_option maxRecDepth 100000
set_option maxHeartbeats 4000000
set_option linter.unusedSimpArgs false
set_option linter.unusedVariables false
namespace Go.Proofs.Ytaogppnbeijjmaa
open Go Go.Av
attribute [local irreducible] wpA OpK awp
attribute [local go_sem] frs_nil frs_cons pw8_32 pw16_32 pw24_32 pw27_32 eqAgg eqAggV buildQ placesOf buildCells List.toList_toArray vcQg gfind gfree gput un3_agg unI_int unB_bool unK_int guardU skipV resVs resV vcD_nil vcD_cons vcT_fin vcT_free vcT_one vcT_two opS vcD1 roH roOb ftNone ftAdd oneOrTup AV.detup AV.ren AV.ren2 AV.ren1 pos selH AObj.ren fitAll fit fit1 fit1s matchAll matchOb exIds AObj.excl Env.killp pastH setAll upId AObj.past AObj.back AV.killp AV.killp1 AV.killp2 Nat.sub_self Nat.lt_irrefl Bool.or_self vcOps vcOp vcQs vcQ dstOk quiet eff pcall calleeF plain valsOf ev ofConst argEnv List.lookup Nat.add_eq decide_true decide_false Env.put binV wrapTo unV convV loadQ indexQ callQ builtinQ rd rdI globC AObj.globC partAV isAggD isArrayD addrAdd boxE storeE storeXE storeCE storeGE storeFE makeE makeXE makeNE makeGE buildXE buildNE buildGE nestZero Cont.child Cont.setChild buildSliceE buildFold appendE appendXE appendNE appendGE Cont.setG nestApp appendV promoteH sliceE boundAV subObj asCells Value.oneCell' contZero Cont.sets Cont.app Cont.sub Cont.len Cont.esz Cont.cell Cont.cells Cont.flat AV.det AV.det1 guardV AObj.unview AObj.kill Env.kill AV.kill AV.kill1 AV.kill2 fits64 Option.getD_some Option.getD_none Option.map_some Option.map_none Option.bind_some List.map_cons List.map_nil List.getElem?_cons_zero List.getElem?_cons_succ List.getElem?_nil true_and and_true and_false false_and List.getElem?_toArray List.cons_append List.nil_append List.length_cons List.length_nil List.set_cons_zero List.set_cons_succ List.take_succ_cons List.take_zero List.drop_succ_cons List.drop_zero List.drop_nil List.take_nil List.contains_cons List.contains_nil List.elem_cons List.elem_nil Bool.not_true Bool.not_false Bool.false_eq_true Bool.or_false Bool.or_true Bool.and_true Bool.and_false Bool.true_and Bool.false_and List.all_cons List.all_nil List.size_toArray Nat.lt_add_one Nat.zero_lt_succ Nat.one_ne_zero Nat.zero_ne_one and_self List.replicate_succ List.replicate_zero Int.toNat_natCast Int.toNat_zero Value.cells false_implies true_implies forall_const Thn InBlk Nat.zero_add Nat.add_zero Int.zero_add Ele Env.ren Option.some.injEq AV.v.injEq AV.sl.injEq AV.pp.injEq AV.ep.injEq AV.agg.injEq List.cons.injEq Value.int.injEq Value.bool.injEq Value.string.injEq true_or or_true or_false false_or tsz0 tby0 tz0 Try.underlying0 tsz1 tby1 tz1 Try.underlying1 tsz2 tby2 tz2 Try.underlying2 tsz3 tby3 tz3 Try.underlying3 tsz4 tby4 tz4 Try.underlying4 tsz5 tby5 tz5 Try.underlying5 tsz6 tby6 tz6 Try.underlying6 tsz7 tby7 tz7 Try.underlying7 fo7_0 fo7_1 fo7_2 fo7_3 tsz8 tby8 tz8 Try.underlying8 fo8_0 fo8_1 fo8_2 fo8_3 tsz9 tby9 Try.underlying9 tsz10 tby10 Try.underlying10 tsz12 tby12 tz12 Try.underlying12 tsz16 tby16 tz16 Try.underlying16 tsz17 tby17 tz17 Try.underlying17 tsz20 tby20 tz20 Try.underlying20 tsz21 tby21 tz21 Try.underlying21 tsz22 tby22 tz22 Try.underlying22 tsz23 tby23 tz23 Try.underlying23 tsz24 tby24 tz24 Try.underlying24 fo24_0 fo24_1 tsz25 tby25 tz25 Try.underlying25 fo25_0 fo25_1 tsz32 tby32 tz32 Try.underlying32 tsz34 tby34 tz34 Try.underlying34 peq34 fo34_0 fo34_1 fo34_2 tsz35 tby35 tz35 Try.underlying35 peq35 fo35_0 fo35_1 fo35_2 tsz36 tby36 tz36 Try.underlying36 tsz40 tby40 tz40 Try.underlying40 tsz44 tby44 tz44 Try.underlying44 tsz59 tby59 tz59 Try.underlying59 tsz61 tby61 tz61 Try.underlying61 tsz64 tby64 tz64 Try.underlying64 tsz65 tby65 tz65 Try.underlying65 fo65_0 fo65_1 tsz66 tby66 tz66 Try.underlying66 fo66_0 fo66_1 tsz74 tby74 tz74 Try.underlying74 tsz81 tby81 tz81 Try.underlying81 tsz85 tby85 tz85 Try.underlying85 peq85 fo85_0 fo85_1 fo85_2 tsz90 tby90 tz90 Try.underlying90 tsz91 tby91 tz91 Try.underlying91 tsz92 tby92 tz92 Try.underlying92 tsz94 tby94 tz94 Try.underlying94 tsz95 tby95 tz95 Try.underlying95 tsz96 tby96 tz96 Try.underlying96 tsz97 tby97 tz97 Try.underlying97 tsz98 tby98 tz98 Try.underlying98 tsz99 tby99 tz99 Try.underlying99 tsz100 tby100 tz100 Try.underlying100 tsz101 tby101 tz101 Try.underlying101 fo101_0 fo101_1 fo101_2 fo101_3 fo101_4 fo101_5 fo101_6 fo101_7 fo101_8 fo101_9 fo101_10 tsz102 tby102 tz102 Try.underlying102 fo102_0 fo102_1 fo102_2 fo102_3 fo102_4 fo102_5 fo102_6 fo102_7 fo102_8 fo102_9 fo102_10 tsz103 tby103 tz103 Try.underlying103 l1InG eqEdgeG l4BeforeG isNaNG cmpIntG cmpEndsG toEdgeG ftC
theorem k_laws_szEdgeS (a0 : List (Int × Int × Int)) (a1 : Int) {r : Int} (h : laws_szEdgeS a0 a1 = some r) :
    FnA Try.prog 53 [.sl 0, .v (.int .i64 a1)] [.row false (.trips a0)] [] (fun x H => x = .v (.int .i64 r) ∧ H = [.row false (.trips a0)]) := by
  unfold laws_szEdgeS at h
  refine FnA.of (N := 12) (pin := [0]) (rs := [.tmp 4]) Try.func53 rfl en53 rfl rfl (by simp) (by simp; try omega) ?_
  refine awp_reg ftCOk [(0, .sl 0), (1, .v (.int .i64 a1))] [.row false (.trips a0)] ?_
  replace h := chk_some h
  obtain ⟨hp0, h⟩ := h
  have hwhp0 := wrap_fits hp0.1 hp0.2
  refine awp_reg ftCOk [(1, .v (.int .i64 (a1 - (a0.length : Int))))] [.row false (.trips a0)] ?_
  clear hp0
  refine awp_seq fun K2 hK2 => ?_
  refine awp_reg ftCOk [(1, .v (.int .i64 (a1 - (a0.length : Int)))), (10, .v (.bool (decide ((a1 - (a0.length : Int)) < 0))))] [.row false (.trips a0)] ?_
  refine awp_cond (t := 10) rfl (fun hc3 => ?_) (fun hc3 => ?_)
  · replace h := bite_t h hc3
    refine awp_reg ftCOk [(4, .v (.int .i64 (-1)))] [.row false (.trips a0)] ?_
    refine awp_ret ?_
    (try simp only [Thn, InBlk, ↓reduceIte, Nat.reduceEqDiff])
    obtain rfl := Option.some.inj h
    refine ⟨by simp, _, [0], (by simp only [go_sem, Nat.reduceBEq, Nat.reduceLT, Nat.reduceAdd, Nat.reduceLeDiff, Nat.reduceSub, Nat.reduceEqDiff, Int.reduceToNat, reduceCtorEq, ↓reduceIte]; exact rfl), ?_, ?_, ?_, ?_⟩
    · first | exact trivial | exact ⟨trivial, trivial⟩ | exact ⟨trivial, trivial, trivial⟩ | exact ⟨trivial, trivial, trivial, trivial⟩ | (simp only [allP, and_true, true_and]; done) | (simp only [allP, and_true, true_and]; omega)
    · simp [selOk, pos]
    · simp
    · first | exact ⟨rfl, rfl⟩ | (simp only [go_sem, Nat.reduceBEq, Nat.reduceLT, Nat.reduceAdd, Nat.reduceLeDiff, Nat.reduceSub, Nat.reduceEqDiff, Int.reduceToNat, reduceCtorEq, ↓reduceIte]; done) | (simp [go_sem, Nat.reduceBEq, Nat.reduceLT, Nat.reduceAdd, Nat.reduceLeDiff, Nat.reduceSub, Nat.reduceEqDiff, Int.reduceToNat, reduceCtorEq, ↓reduceIte]; done) | (simp only [go_sem, Nat.reduceBEq, Nat.reduceLT, Nat.reduceAdd, Nat.reduceLeDiff, Nat.reduceSub, Nat.reduceEqDiff, Int.reduceToNat, reduceCtorEq, ↓reduceIte]; exact ⟨rfl, rfl⟩) | (simp_all [go_sem, Nat.reduceBEq, Nat.reduceLT, Nat.reduceAdd, Nat.reduceLeDiff, Nat.reduceSub, Nat.reduceEqDiff, Int.reduceToNat, reduceCtorEq, ↓reduceIte]; done)
  · replace h := bite_f h hc3
    refine awp_skip ?_
    (try simp only [Thn, InBlk, ↓reduceIte, Nat.reduceEqDiff])
    refine hK2 _ _ ?_
    clear hK2
    refine awp_reg ftCOk [(4, .v (.int .i64 (a1 - (a0.length : Int))))] [.row false (.trips a0)] ?_
    refine awp_ret ?_
    (try simp only [Thn, InBlk, ↓reduceIte, Nat.reduceEqDiff])
    obtain rfl := Option.some.inj h
    refine ⟨by simp, _, [0], (by simp only [go_sem, Nat.reduceBEq, Nat.reduceLT, Nat.reduceAdd, Nat.reduceLeDiff, Nat.reduceSub, Nat.reduceEqDiff, Int.reduceToNat, reduceCtorEq, ↓reduceIte]; exact rfl), ?_, ?_, ?_, ?_⟩
    · first | exact trivial | exact ⟨trivial, trivial⟩ | exact ⟨trivial, trivial, trivial⟩ | exact ⟨trivial, trivial, trivial, trivial⟩ | (simp only [allP, and_true, true_and]; done) | (simp only [allP, and_true, true_and]; omega)
    · simp [selOk, pos]
    · simp
    · first | exact ⟨rfl, rfl⟩ | (simp only [go_sem, Nat.reduceBEq, Nat.reduceLT, Nat.reduceAdd, Nat.reduceLeDiff, Nat.reduceSub, Nat.reduceEqDiff, Int.reduceToNat, reduceCtorEq, ↓reduceIte]; done) | (simp [go_sem, Nat.reduceBEq, Nat.reduceLT, Nat.reduceAdd, Nat.reduceLeDiff, Nat.reduceSub, Nat.reduceEqDiff, Int.reduceToNat, reduceCtorEq, ↓reduceIte]; done) | (simp only [go_sem, Nat.reduceBEq, Nat.reduceLT, Nat.reduceAdd, Nat.reduceLeDiff, Nat.reduceSub, Nat.reduceEqDiff, Int.reduceToNat, reduceCtorEq, ↓reduceIte]; exact ⟨rfl, rfl⟩) | (simp_all [go_sem, Nat.reduceBEq, Nat.reduceLT, Nat.reduceAdd, Nat.reduceLeDiff, Nat.reduceSub, Nat.reduceEqDiff, Int.reduceToNat, reduceCtorEq, ↓reduceIte]; done)
theorem k_laws_szGraph (a0_0 : Int) (a0_1 : List (Int × Int × Int)) (a1 : Int) {r : Int} (h : laws_szGraph a0_0 a0_1 a1 = some r) :
    FnA Try.prog 41 [.agg [.v (.int .i64 a0_0), .sl 0], .v (.int .i64 a1)] [.row false (.trips a0_1)] [] (fun x H => x = .v (.int .i64 r) ∧ H = [.row false (.trips a0_1)]) := by
  unfold laws_szGraph at h
  refine FnA.of (N := 12) (pin := [0]) (rs := [.tmp 4]) Try.func41 rfl en41 rfl rfl (by simp) (by simp; try omega) ?_
  refine awp_reg ftCOk [(1, .v (.int .i64 a1)), (2, .pp 1 0)] [.row false (.trips a0_1), .box [.v (.int .i64 a0_0), .sl 0]] ?_
  refine awp_freeze 2 (by rfl) (by rfl) (by exact rfl) ?_
  replace h := bind_some h
  obtain ⟨y, hr0, h⟩ := h
  try dsimp only at h
  refine awp_to [(1, .v (.int .i64 y))] [.row false (.trips a0_1), .rbox [.v (.int .i64 a0_0), .sl 0]] ?_ ?_
  · clear h
    intro K hK
    refine awp_region ftCOk ?_
    simp (maxSteps := 4000000) only [go_sem, Nat.reduceBEq, Nat.reduceLT, Nat.reduceAdd, Nat.reduceLeDiff, Nat.reduceSub, Nat.reduceEqDiff, Int.reduceToNat, reduceCtorEq, ↓reduceIte]
    repeat' (first | refine And.intro ?_ ?_ | intro hg)
    all_goals (try simp (disch := omega) only [wrap_fits])
    all_goals first
      | (refine hK _ _ ?_; exact Red.auto)
      | exact trivial
      | assumption
      | omega
      | exact wrap_fits (by omega) (by omega)
      | (refine wpA_callA (k_laws_szEdgeS a0_1 a1 (h := hr0)) [0] [] ?_
         rintro x Hc' ⟨rfl, rfl⟩ hlen
         refine vcOps_sound ftCOk ?_
         simp (maxSteps := 4000000) only [go_sem, Nat.reduceBEq, Nat.reduceLT, Nat.reduceAdd, Nat.reduceLeDiff, Nat.reduceSub, Nat.reduceEqDiff, Int.reduceToNat, reduceCtorEq, ↓reduceIte]
         repeat' (first | refine And.intro ?_ ?_ | intro hg)
         all_goals (try simp (disch := omega) only [wrap_fits])
         all_goals first
           | (refine hK _ _ ?_; exact Red.auto)
           | exact trivial
           | assumption
           | omega
           | exact wrap_fits (by omega) (by omega)
           | (simp_all; done)
           | (simp_all; omega))
      | (simp_all; done)
      | (simp_all; omega)
  · clear hr0
    refine awp_seq fun K2 hK2 => ?_
    refine awp_reg ftCOk [(1, .v (.int .i64 y)), (10, .v (.bool (decide (y < 0))))] [.row false (.trips a0_1), .rbox [.v (.int .i64 a0_0), .sl 0]] ?_
    refine awp_cond (t := 10) rfl (fun hc3 => ?_) (fun hc3 => ?_)
    · replace h := bite_t h hc3
      refine awp_reg ftCOk [(4, .v (.int .i64 (-1)))] [.row false (.trips a0_1), .rbox [.v (.int .i64 a0_0), .sl 0]] ?_
      refine awp_ret ?_
      (try simp only [Thn, InBlk, ↓reduceIte, Nat.reduceEqDiff])
      obtain rfl := Option.some.inj h
      refine ⟨by simp, _, [0], (by simp only [go_sem, Nat.reduceBEq, Nat.reduceLT, Nat.reduceAdd, Nat.reduceLeDiff, Nat.reduceSub, Nat.reduceEqDiff, Int.reduceToNat, reduceCtorEq, ↓reduceIte]; exact rfl), ?_, ?_, ?_, ?_⟩
      · first | exact trivial | exact ⟨trivial, trivial⟩ | exact ⟨trivial, trivial, trivial⟩ | exact ⟨trivial, trivial, trivial, trivial⟩ | (simp only [allP, and_true, true_and]; done) | (simp only [allP, and_true, true_and]; omega)
      · simp [selOk, pos]
      · simp
      · first | exact ⟨rfl, rfl⟩ | (simp only [go_sem, Nat.reduceBEq, Nat.reduceLT, Nat.reduceAdd, Nat.reduceLeDiff, Nat.reduceSub, Nat.reduceEqDiff, Int.reduceToNat, reduceCtorEq, ↓reduceIte]; done) | (simp [go_sem, Nat.reduceBEq, Nat.reduceLT, Nat.reduceAdd, Nat.reduceLeDiff, Nat.reduceSub, Nat.reduceEqDiff, Int.reduceToNat, reduceCtorEq, ↓reduceIte]; done) | (simp only [go_sem, Nat.reduceBEq, Nat.reduceLT, Nat.reduceAdd, Nat.reduceLeDiff, Nat.reduceSub, Nat.reduceEqDiff, Int.reduceToNat, reduceCtorEq, ↓reduceIte]; exact ⟨rfl, rfl⟩) | (simp_all [go_sem, Nat.reduceBEq, Nat.reduceLT, Nat.reduceAdd, Nat.reduceLeDiff, Nat.reduceSub, Nat.reduceEqDiff, Int.reduceToNat, reduceCtorEq, ↓reduceIte]; done)
    · replace h := bite_f h hc3
      refine awp_skip ?_
      (try simp only [Thn, InBlk, ↓reduceIte, Nat.reduceEqDiff])
      refine hK2 _ _ ?_
      clear hK2
      refine awp_reg ftCOk [(4, .v (.int .i64 y))] [.row false (.trips a0_1), .rbox [.v (.int .i64 a0_0), .sl 0]] ?_
      refine awp_ret ?_
      (try simp only [Thn, InBlk, ↓reduceIte, Nat.reduceEqDiff])
      obtain rfl := Option.some.inj h
      refine ⟨by simp, _, [0], (by simp only [go_sem, Nat.reduceBEq, Nat.reduceLT, Nat.reduceAdd, Nat.reduceLeDiff, Nat.reduceSub, Nat.reduceEqDiff, Int.reduceToNat, reduceCtorEq, ↓reduceIte]; exact rfl), ?_, ?_, ?_, ?_⟩
      · first | exact trivial | exact ⟨trivial, trivial⟩ | exact ⟨trivial, trivial, trivial⟩ | exact ⟨trivial, trivial, trivial, trivial⟩ | (simp only [allP, and_true, true_and]; done) | (simp only [allP, and_true, true_and]; omega)
      · simp [selOk, pos]
      · simp
      · first | exact ⟨rfl, rfl⟩ | (simp only [go_sem, Nat.reduceBEq, Nat.reduceLT, Nat.reduceAdd, Nat.reduceLeDiff, Nat.reduceSub, Nat.reduceEqDiff, Int.reduceToNat, reduceCtorEq, ↓reduceIte]; done) | (simp [go_sem, Nat.reduceBEq, Nat.reduceLT, Nat.reduceAdd, Nat.reduceLeDiff, Nat.reduceSub, Nat.reduceEqDiff, Int.reduceToNat, reduceCtorEq, ↓reduceIte]; done) | (simp only [go_sem, Nat.reduceBEq, Nat.reduceLT, Nat.reduceAdd, Nat.reduceLeDiff, Nat.reduceSub, Nat.reduceEqDiff, Int.reduceToNat, reduceCtorEq, ↓reduceIte]; exact ⟨rfl, rfl⟩) | (simp_all [go_sem, Nat.reduceBEq, Nat.reduceLT, Nat.reduceAdd, Nat.reduceLeDiff, Nat.reduceSub, Nat.reduceEqDiff, Int.reduceToNat, reduceCtorEq, ↓reduceIte]; done)
theorem k_laws_szGraphS (a0 : List (Int × List (Int × Int × Int))) (a1 : Int) {r : Int} (h : laws_szGraphS a0 a1 = some r) :
    FnA Try.prog 17 [.sl 0, .v (.int .i64 a1)] [.row false (.graphs a0)] [] (fun x H => x = .v (.int .i64 r) ∧ H = [.row false (.graphs a0)]) := by
  unfold laws_szGraphS at h
  refine FnA.of (N := 27) (pin := [0]) (rs := [.tmp 4]) Try.func17 rfl en17 rfl rfl (by simp) (by simp; try omega) ?_
  refine awp_reg ftCOk [(0, .sl 0), (1, .v (.int .i64 a1))] [.row false (.graphs a0)] ?_
  replace h := chk_some h
  obtain ⟨hp0, h⟩ := h
  have hwhp0 := wrap_fits hp0.1 hp0.2
  refine awp_reg ftCOk [(0, .sl 0), (1, .v (.int .i64 (a1 - (a0.length : Int))))] [.row false (.graphs a0)] ?_
  clear hp0
  refine awp_seq fun K2 hK2 => ?_
  refine awp_reg ftCOk [(0, .sl 0), (1, .v (.int .i64 (a1 - (a0.length : Int)))), (11, .v (.bool (decide ((a1 - (a0.length : Int)) < 0))))] [.row false (.graphs a0)] ?_
  refine awp_cond (t := 11) rfl (fun hc3 => ?_) (fun hc3 => ?_)
  · replace h := bite_t h hc3
    refine awp_reg ftCOk [(4, .v (.int .i64 (-1)))] [.row false (.graphs a0)] ?_
    refine awp_ret ?_
    (try simp only [Thn, InBlk, ↓reduceIte, Nat.reduceEqDiff])
    obtain rfl := Option.some.inj h
    refine ⟨by simp, _, [0], (by simp only [go_sem, Nat.reduceBEq, Nat.reduceLT, Nat.reduceAdd, Nat.reduceLeDiff, Nat.reduceSub, Nat.reduceEqDiff, Int.reduceToNat, reduceCtorEq, ↓reduceIte]; exact rfl), ?_, ?_, ?_, ?_⟩
    · first | exact trivial | exact ⟨trivial, trivial⟩ | exact ⟨trivial, trivial, trivial⟩ | exact ⟨trivial, trivial, trivial, trivial⟩ | (simp only [allP, and_true, true_and]; done) | (simp only [allP, and_true, true_and]; omega)
    · simp [selOk, pos]
    · simp
    · first | exact ⟨rfl, rfl⟩ | (simp only [go_sem, Nat.reduceBEq, Nat.reduceLT, Nat.reduceAdd, Nat.reduceLeDiff, Nat.reduceSub, Nat.reduceEqDiff, Int.reduceToNat, reduceCtorEq, ↓reduceIte]; done) | (simp [go_sem, Nat.reduceBEq, Nat.reduceLT, Nat.reduceAdd, Nat.reduceLeDiff, Nat.reduceSub, Nat.reduceEqDiff, Int.reduceToNat, reduceCtorEq, ↓reduceIte]; done) | (simp only [go_sem, Nat.reduceBEq, Nat.reduceLT, Nat.reduceAdd, Nat.reduceLeDiff, Nat.reduceSub, Nat.reduceEqDiff, Int.reduceToNat, reduceCtorEq, ↓reduceIte]; exact ⟨rfl, rfl⟩) | (simp_all [go_sem, Nat.reduceBEq, Nat.reduceLT, Nat.reduceAdd, Nat.reduceLeDiff, Nat.reduceSub, Nat.reduceEqDiff, Int.reduceToNat, reduceCtorEq, ↓reduceIte]; done)
  · replace h := bite_f h hc3
    refine awp_skip ?_
    (try simp only [Thn, InBlk, ↓reduceIte, Nat.reduceEqDiff])
    refine hK2 _ _ ?_
    clear hK2
    refine awp_seq fun K29 hK29 => ?_
    refine awp_reg ftCOk [(0, .sl 0), (1, .v (.int .i64 (a1 - (a0.length : Int)))), (5, .v (.int .i64 0))] [.row false (.graphs a0)] ?_
    refine awp_block ?_
    replace h := bind_some h
    obtain ⟨x54, hx, h⟩ := h
    refine awp_loopL hx (fun ((t1, t5) : Int × Int) => [(0, .sl 0), (1, .v (.int .i64 t1)), (5, .v (.int .i64 t5))]) (fun ((t1, t5) : Int × Int) => [.row false (.graphs a0)]) (Sum.elim (fun (t1_1 : Int) => Exit.exit 0) (fun (_ : Unit) => Exit.ret)) (Sum.elim (fun (t1_1 : Int) => [(1, .v (.int .i64 t1_1))]) (fun (_ : Unit) => [(4, .v (.int .i64 (-1)))])) (Sum.elim (fun (t1_1 : Int) => [.row false (.graphs a0)]) (fun (_ : Unit) => [.row false (.graphs a0)])) ?_ ?_ ?_ ?_
    · rintro (t1_1 | ⟨⟩) hy <;> cases hy
    · clear h hx
      exact Red.auto
    · clear h hx
      rintro ⟨t1, t5⟩ r h
      unfold laws_szGraphS_b0 at h
      try dsimp only at h
      try dsimp only
      refine awp_seq fun K47 hK47 => ?_
      refine awp_reg ftCOk [(0, .sl 0), (1, .v (.int .i64 t1)), (5, .v (.int .i64 t5)), (15, .v (.bool (decide (t5 < (a0.length : Int)))))] [.row false (.graphs a0)] ?_
      refine awp_cond (t := 15) rfl (fun hc48 => ?_) (fun hc48 => ?_)
      · replace h := bite_t h hc48
        refine awp_skip ?_
        (try simp only [Thn, InBlk, ↓reduceIte, Nat.reduceEqDiff])
        refine hK47 _ _ ?_
        clear hK47
        refine awp_seq fun K51 hK51 => ?_
        refine awp_block ?_
        replace h := chk_some h
        obtain ⟨hpt53, h⟩ := h
        refine awp_take 0 t5.toNat 1 (by rfl) (by exact hpt53) (by rfl) (by exact rfl) ?_
        clear hpt53
        replace h := chk_some h
        obtain ⟨hp0, h⟩ := h
        replace h := bind_some h
        obtain ⟨y, hr1, h⟩ := h
        try dsimp only at h
        refine awp_to [(0, .sl 0), (1, .v (.int .i64 y)), (5, .v (.int .i64 t5))] [.tak false (.graphs a0) t5.toNat 1 (some 1), .row false (.trips ((a0.getD t5.toNat (0, [])).2))] ?_ ?_
        · clear h
          intro K hK
          refine awp_region ftCOk ?_
          simp (maxSteps := 4000000) only [go_sem, Nat.reduceBEq, Nat.reduceLT, Nat.reduceAdd, Nat.reduceLeDiff, Nat.reduceSub, Nat.reduceEqDiff, Int.reduceToNat, reduceCtorEq, ↓reduceIte]
          repeat' (first | refine And.intro ?_ ?_ | intro hg)
          all_goals (try simp (disch := omega) only [wrap_fits])
          all_goals first
            | (refine hK _ _ ?_; exact Red.auto)
            | exact trivial
            | assumption
            | omega
            | exact wrap_fits (by omega) (by omega)
            | (refine wpA_callA (k_laws_szGraph ((a0.getD t5.toNat (0, [])).1) ((a0.getD t5.toNat (0, [])).2) t1 (h := hr1)) [1] [] ?_
               rintro x Hc' ⟨rfl, rfl⟩ hlen
               refine vcOps_sound ftCOk ?_
               simp (maxSteps := 4000000) only [go_sem, Nat.reduceBEq, Nat.reduceLT, Nat.reduceAdd, Nat.reduceLeDiff, Nat.reduceSub, Nat.reduceEqDiff, Int.reduceToNat, reduceCtorEq, ↓reduceIte]
               repeat' (first | refine And.intro ?_ ?_ | intro hg)
               all_goals (try simp (disch := omega) only [wrap_fits])
               all_goals first
                 | (refine hK _ _ ?_; exact Red.auto)
                 | exact trivial
                 | assumption
                 | omega
                 | exact wrap_fits (by omega) (by omega)
                 | (simp_all; done)
                 | (simp_all; omega))
            | (simp_all; done)
            | (simp_all; omega)
        · clear hp0 hr1
          refine awp_put 0 1 (by rfl) (by rfl) (Cont.setChild_self (by rfl)) (by exact rfl) ?_
          refine awp_reg ftCOk [(0, .sl 0), (1, .v (.int .i64 y)), (5, .v (.int .i64 t5)), (25, .v (.bool (decide (y < 0))))] [.row false (.graphs a0), .row false (.trips ((a0.getD t5.toNat (0, [])).2))] ?_
          refine awp_cond (t := 25) rfl (fun hc52 => ?_) (fun hc52 => ?_)
          · replace h := bite_t h hc52
            refine awp_reg ftCOk [(4, .v (.int .i64 (-1)))] [.row false (.graphs a0), .row false (.trips ((a0.getD t5.toNat (0, [])).2))] ?_
            refine awp_ret ?_
            (try simp only [Thn, InBlk, ↓reduceIte, Nat.reduceEqDiff])
            obtain rfl := Option.some.inj h
            refine LoopQ.out rfl ?_
            exact Red.selA [0] Red.auto
          · replace h := bite_f h hc52
            refine awp_skip ?_
            (try simp only [Thn, InBlk, ↓reduceIte, Nat.reduceEqDiff])
            (try simp only [Thn, InBlk, ↓reduceIte, Nat.reduceEqDiff])
            refine hK51 _ _ ?_
            clear hK51
            replace h := chk_some h
            obtain ⟨hp0, h⟩ := h
            refine awp_regE ftCOk [(0, .sl 0), (1, .v (.int .i64 y)), (5, .v (.int .i64 (t5 + 1)))] [.row false (.graphs a0), .row false (.trips ((a0.getD t5.toNat (0, [])).2))] ?_
            clear hp0
            obtain rfl := Option.some.inj h
            refine LoopQ.next ?_
            exact Red.selA [0] Red.auto
      · replace h := bite_f h hc48
        refine awp_exit ?_
        (try simp only [Thn, InBlk, ↓reduceIte, Nat.reduceEqDiff])
        obtain rfl := Option.some.inj h
        refine LoopQ.out rfl ?_
        exact Red.auto
    · clear hx
      rcases x54 with (t1_1 | ⟨⟩)
      · try dsimp only [Sum.elim_inl, Sum.elim_inr] at h
        try dsimp only [Sum.elim_inl, Sum.elim_inr]
        (try simp only [Thn, InBlk, ↓reduceIte, Nat.reduceEqDiff])
        (try simp only [Thn, InBlk, ↓reduceIte, Nat.reduceEqDiff])
        (try simp only [Thn, InBlk, ↓reduceIte, Nat.reduceEqDiff])
        refine hK29 _ _ ?_
        clear hK29
        refine awp_reg ftCOk [(4, .v (.int .i64 t1_1))] [.row false (.graphs a0)] ?_
        refine awp_ret ?_
        (try simp only [Thn, InBlk, ↓reduceIte, Nat.reduceEqDiff])
        obtain rfl := Option.some.inj h
        refine ⟨by simp, _, [0], (by simp only [go_sem, Nat.reduceBEq, Nat.reduceLT, Nat.reduceAdd, Nat.reduceLeDiff, Nat.reduceSub, Nat.reduceEqDiff, Int.reduceToNat, reduceCtorEq, ↓reduceIte]; exact rfl), ?_, ?_, ?_, ?_⟩
        · first | exact trivial | exact ⟨trivial, trivial⟩ | exact ⟨trivial, trivial, trivial⟩ | exact ⟨trivial, trivial, trivial, trivial⟩ | (simp only [allP, and_true, true_and]; done) | (simp only [allP, and_true, true_and]; omega)
        · simp [selOk, pos]
        · simp
        · first | exact ⟨rfl, rfl⟩ | (simp only [go_sem, Nat.reduceBEq, Nat.reduceLT, Nat.reduceAdd, Nat.reduceLeDiff, Nat.reduceSub, Nat.reduceEqDiff, Int.reduceToNat, reduceCtorEq, ↓reduceIte]; done) | (simp [go_sem, Nat.reduceBEq, Nat.reduceLT, Nat.reduceAdd, Nat.reduceLeDiff, Nat.reduceSub, Nat.reduceEqDiff, Int.reduceToNat, reduceCtorEq, ↓reduceIte]; done) | (simp only [go_sem, Nat.reduceBEq, Nat.reduceLT, Nat.reduceAdd, Nat.reduceLeDiff, Nat.reduceSub, Nat.reduceEqDiff, Int.reduceToNat, reduceCtorEq, ↓reduceIte]; exact ⟨rfl, rfl⟩) | (simp_all [go_sem, Nat.reduceBEq, Nat.reduceLT, Nat.reduceAdd, Nat.reduceLeDiff, Nat.reduceSub, Nat.reduceEqDiff, Int.reduceToNat, reduceCtorEq, ↓reduceIte]; done)
      · try dsimp only [Sum.elim_inl, Sum.elim_inr] at h
        try dsimp only [Sum.elim_inl, Sum.elim_inr]
        (try simp only [Thn, InBlk, ↓reduceIte, Nat.reduceEqDiff])
        obtain rfl := Option.some.inj h
        refine ⟨by simp, _, [0], (by simp only [go_sem, Nat.reduceBEq, Nat.reduceLT, Nat.reduceAdd, Nat.reduceLeDiff, Nat.reduceSub, Nat.reduceEqDiff, Int.reduceToNat, reduceCtorEq, ↓reduceIte]; exact rfl), ?_, ?_, ?_, ?_⟩
        · first | exact trivial | exact ⟨trivial, trivial⟩ | exact ⟨trivial, trivial, trivial⟩ | exact ⟨trivial, trivial, trivial, trivial⟩ | (simp only [allP, and_true, true_and]; done) | (simp only [allP, and_true, true_and]; omega)
        · simp [selOk, pos]
        · simp
        · first | exact ⟨rfl, rfl⟩ | (simp only [go_sem, Nat.reduceBEq, Nat.reduceLT, Nat.reduceAdd, Nat.reduceLeDiff, Nat.reduceSub, Nat.reduceEqDiff, Int.reduceToNat, reduceCtorEq, ↓reduceIte]; done) | (simp [go_sem, Nat.reduceBEq, Nat.reduceLT, Nat.reduceAdd, Nat.reduceLeDiff, Nat.reduceSub, Nat.reduceEqDiff, Int.reduceToNat, reduceCtorEq, ↓reduceIte]; done) | (simp only [go_sem, Nat.reduceBEq, Nat.reduceLT, Nat.reduceAdd, Nat.reduceLeDiff, Nat.reduceSub, Nat.reduceEqDiff, Int.reduceToNat, reduceCtorEq, ↓reduceIte]; exact ⟨rfl, rfl⟩) | (simp_all [go_sem, Nat.reduceBEq, Nat.reduceLT, Nat.reduceAdd, Nat.reduceLeDiff, Nat.reduceSub, Nat.reduceEqDiff, Int.reduceToNat, reduceCtorEq, ↓reduceIte]; done)
theorem k_laws_toEdgeS (a0 : List (Int × Int × Int)) {r : (List (Int × Int × Int))} (h : laws_toEdgeS a0 = some r) :
    FnA Try.prog 54 [.sl 0] [.row false (.trips a0)] [] (fun x H => x = .sl 1 ∧ H = [.row false (.trips a0), .row true (.trips r)]) := by
  unfold laws_toEdgeS at h
  refine FnA.of (N := 23) (pin := [0]) (rs := [.tmp 2]) Try.func54 rfl en54 rfl rfl (by simp) (by simp; try omega) ?_
  refine awp_reg ftCOk [(0, .sl 0)] [.row false (.trips a0)] ?_
  replace h := chk_some h
  obtain ⟨hp0, h⟩ := h
  refine awp_reg ftCOk [(0, .sl 0), (3, .sl 1)] [.row false (.trips a0), .row true (.trips (List.replicate ((a0.length : Int).toNat) (0, 0, 0)))] ?_
  clear hp0
  refine awp_seq fun K14 hK14 => ?_
  refine awp_reg ftCOk [(0, .sl 0), (3, .sl 1), (4, .v (.int .i64 0))] [.row false (.trips a0), .row true (.trips (List.replicate ((a0.length : Int).toNat) (0, 0, 0)))] ?_
  refine awp_block ?_
  replace h := bind_some h
  obtain ⟨t3s_1, hx, h⟩ := h
  refine awp_loopL hx (fun ((t4, t3s) : Int × (List (Int × Int × Int))) => [(0, .sl 0), (3, .sl 1), (4, .v (.int .i64 t4))]) (fun ((t4, t3s) : Int × (List (Int × Int × Int))) => [.row false (.trips a0), .row true (.trips t3s)]) (fun (t3s_1 : List (Int × Int × Int)) => Exit.exit 0) (fun (t3s_1 : List (Int × Int × Int)) => [(3, .sl 1)]) (fun (t3s_1 : List (Int × Int × Int)) => [.row false (.trips a0), .row true (.trips t3s_1)]) ?_ ?_ ?_ ?_
  · rintro t3s_1 hy <;> cases hy
  · clear h hx
    exact Red.auto
  · clear h hx
    rintro ⟨t4, t3s⟩ r h
    unfold laws_toEdgeS_b0 at h
    try dsimp only at h
    try dsimp only
    refine awp_seq fun K24 hK24 => ?_
    refine awp_reg ftCOk [(0, .sl 0), (3, .sl 1), (4, .v (.int .i64 t4)), (11, .v (.bool (decide (t4 < (a0.length : Int)))))] [.row false (.trips a0), .row true (.trips t3s)] ?_
    refine awp_cond (t := 11) rfl (fun hc25 => ?_) (fun hc25 => ?_)
    · replace h := bite_t h hc25
      refine awp_skip ?_
      (try simp only [Thn, InBlk, ↓reduceIte, Nat.reduceEqDiff])
      refine hK24 _ _ ?_
      clear hK24
      refine awp_seq fun K26 hK26 => ?_
      refine awp_block ?_
      replace h := chk_some h
      obtain ⟨hp0, h⟩ := h
      replace h := chk_some h
      obtain ⟨hp1, h⟩ := h
      refine awp_regE ftCOk [(0, .sl 0), (3, .sl 1), (4, .v (.int .i64 t4))] [.row false (.trips a0), .row true (.trips (t3s.set t4.toNat ((a0.getD t4.toNat (0, 0, 0)).1, (a0.getD t4.toNat (0, 0, 0)).2.1, (a0.getD t4.toNat (0, 0, 0)).2.2)))] ?_
      clear hp0 hp1
      (try simp only [Thn, InBlk, ↓reduceIte, Nat.reduceEqDiff])
      (try simp only [Thn, InBlk, ↓reduceIte, Nat.reduceEqDiff])
      refine hK26 _ _ ?_
      clear hK26
      replace h := chk_some h
      obtain ⟨hp0, h⟩ := h
      refine awp_regE ftCOk [(0, .sl 0), (3, .sl 1), (4, .v (.int .i64 (t4 + 1)))] [.row false (.trips a0), .row true (.trips (t3s.set t4.toNat ((a0.getD t4.toNat (0, 0, 0)).1, (a0.getD t4.toNat (0, 0, 0)).2.1, (a0.getD t4.toNat (0, 0, 0)).2.2)))] ?_
      clear hp0
      obtain rfl := Option.some.inj h
      refine LoopQ.next ?_
      exact Red.auto
    · replace h := bite_f h hc25
      refine awp_exit ?_
      (try simp only [Thn, InBlk, ↓reduceIte, Nat.reduceEqDiff])
      obtain rfl := Option.some.inj h
      refine LoopQ.out rfl ?_
      exact Red.auto
  · clear hx
    skip
    · try dsimp only [Sum.elim_inl, Sum.elim_inr] at h
      try dsimp only [Sum.elim_inl, Sum.elim_inr]
      (try simp only [Thn, InBlk, ↓reduceIte, Nat.reduceEqDiff])
      (try simp only [Thn, InBlk, ↓reduceIte, Nat.reduceEqDiff])
      (try simp only [Thn, InBlk, ↓reduceIte, Nat.reduceEqDiff])
      refine hK14 _ _ ?_
      clear hK14
      refine awp_reg ftCOk [(2, .sl 1)] [.row false (.trips a0), .row true (.trips t3s_1)] ?_
      refine awp_ret ?_
      (try simp only [Thn, InBlk, ↓reduceIte, Nat.reduceEqDiff])
      obtain rfl := Option.some.inj h
      refine ⟨by simp, _, [0, 1], (by simp only [go_sem, Nat.reduceBEq, Nat.reduceLT, Nat.reduceAdd, Nat.reduceLeDiff, Nat.reduceSub, Nat.reduceEqDiff, Int.reduceToNat, reduceCtorEq, ↓reduceIte]; exact rfl), ?_, ?_, ?_, ?_⟩
      · first | exact trivial | exact ⟨trivial, trivial⟩ | exact ⟨trivial, trivial, trivial⟩ | exact ⟨trivial, trivial, trivial, trivial⟩ | (simp only [allP, and_true, true_and]; done) | (simp only [allP, and_true, true_and]; omega)
      · simp [selOk, pos]
      · simp
      · first | exact ⟨rfl, rfl⟩ | (simp only [go_sem, Nat.reduceBEq, Nat.reduceLT, Nat.reduceAdd, Nat.reduceLeDiff, Nat.reduceSub, Nat.reduceEqDiff, Int.reduceToNat, reduceCtorEq, ↓reduceIte]; done) | (simp [go_sem, Nat.reduceBEq, Nat.reduceLT, Nat.reduceAdd, Nat.reduceLeDiff, Nat.reduceSub, Nat.reduceEqDiff, Int.reduceToNat, reduceCtorEq, ↓reduceIte]; done) | (simp only [go_sem, Nat.reduceBEq, Nat.reduceLT, Nat.reduceAdd, Nat.reduceLeDiff, Nat.reduceSub, Nat.reduceEqDiff, Int.reduceToNat, reduceCtorEq, ↓reduceIte]; exact ⟨rfl, rfl⟩) | (simp_all [go_sem, Nat.reduceBEq, Nat.reduceLT, Nat.reduceAdd, Nat.reduceLeDiff, Nat.reduceSub, Nat.reduceEqDiff, Int.reduceToNat, reduceCtorEq, ↓reduceIte]; done)
theorem k_laws_toGraph (a0_0 : Int) (a0_1 : List (Int × Int × Int)) {r : Int × (List (Int × Int × Int))} (h : laws_toGraph a0_0 a0_1 = some r) :
    FnA Try.prog 42 [.agg [.v (.int .i64 a0_0), .sl 0]] [.row false (.trips a0_1)] [] (fun x H => x = .agg [.v (.int .i64 r.1), .sl 1] ∧ H = [.row false (.trips a0_1), .row true (.trips r.2)]) := by
  unfold laws_toGraph at h
  refine FnA.of (N := 12) (pin := [0]) (rs := [.cell 2 25]) Try.func42 rfl en42 rfl rfl (by simp) (by simp; try omega) ?_
  refine awp_reg ftCOk [(1, .pp 1 0), (2, .pp 2 0)] [.row false (.trips a0_1), .box [.v (.int .i64 a0_0), .sl 0], .box [.v (.int .i64 0), .v (.slice none 0 0)]] ?_
  refine awp_freeze 1 (by rfl) (by rfl) (by exact rfl) ?_
  refine awp_reg ftCOk [(1, .pp 1 0), (2, .pp 2 0), (3, .pp 3 0)] [.row false (.trips a0_1), .rbox [.v (.int .i64 a0_0), .sl 0], .box [.v (.int .i64 0), .v (.slice none 0 0)], .box [.v (.int .i64 0), .v (.slice none 0 0)]] ?_
  refine awp_reg ftCOk [(1, .pp 1 0), (2, .pp 2 0), (3, .pp 3 0)] [.row false (.trips a0_1), .rbox [.v (.int .i64 a0_0), .sl 0], .box [.v (.int .i64 0), .v (.slice none 0 0)], .box [.v (.int .i64 a0_0), .v (.slice none 0 0)]] ?_
  replace h := bind_some h
  obtain ⟨y, hr0, h⟩ := h
  try dsimp only at h
  refine awp_to [(2, .pp 2 0), (3, .pp 3 0)] [.row false (.trips a0_1), .rbox [.v (.int .i64 a0_0), .sl 0], .box [.v (.int .i64 0), .v (.slice none 0 0)], .box [.v (.int .i64 a0_0), .sl 4], .row true (.trips y)] ?_ ?_
  · clear h
    intro K hK
    refine awp_region ftCOk ?_
    simp (maxSteps := 4000000) only [go_sem, Nat.reduceBEq, Nat.reduceLT, Nat.reduceAdd, Nat.reduceLeDiff, Nat.reduceSub, Nat.reduceEqDiff, Int.reduceToNat, reduceCtorEq, ↓reduceIte]
    repeat' (first | refine And.intro ?_ ?_ | intro hg)
    all_goals (try simp (disch := omega) only [wrap_fits])
    all_goals first
      | (refine hK _ _ ?_; exact Red.auto)
      | exact trivial
      | assumption
      | omega
      | exact wrap_fits (by omega) (by omega)
      | (refine wpA_callA (k_laws_toEdgeS a0_1 (h := hr0)) [0] [] ?_
         rintro x Hc' ⟨rfl, rfl⟩ hlen
         refine vcOps_sound ftCOk ?_
         simp (maxSteps := 4000000) only [go_sem, Nat.reduceBEq, Nat.reduceLT, Nat.reduceAdd, Nat.reduceLeDiff, Nat.reduceSub, Nat.reduceEqDiff, Int.reduceToNat, reduceCtorEq, ↓reduceIte]
         repeat' (first | refine And.intro ?_ ?_ | intro hg)
         all_goals (try simp (disch := omega) only [wrap_fits])
         all_goals first
           | (refine hK _ _ ?_; exact Red.auto)
           | exact trivial
           | assumption
           | omega
           | exact wrap_fits (by omega) (by omega)
           | (simp_all; done)
           | (simp_all; omega))
      | (simp_all; done)
      | (simp_all; omega)
  · clear hr0
    refine awp_reg ftCOk [(2, .pp 2 0)] [.row false (.trips a0_1), .rbox [.v (.int .i64 a0_0), .sl 0], .box [.v (.int .i64 a0_0), .sl 4], .box [.v (.int .i64 a0_0), .sl 4], .row true (.trips y)] ?_
    refine awp_ret ?_
    (try simp only [Thn, InBlk, ↓reduceIte, Nat.reduceEqDiff])
    obtain rfl := Option.some.inj h
    refine ⟨by simp, _, [0, 4], (by simp only [go_sem, Nat.reduceBEq, Nat.reduceLT, Nat.reduceAdd, Nat.reduceLeDiff, Nat.reduceSub, Nat.reduceEqDiff, Int.reduceToNat, reduceCtorEq, ↓reduceIte]; exact rfl), ?_, ?_, ?_, ?_⟩
    · first | exact trivial | exact ⟨trivial, trivial⟩ | exact ⟨trivial, trivial, trivial⟩ | exact ⟨trivial, trivial, trivial, trivial⟩ | (simp only [allP, and_true, true_and]; done) | (simp only [allP, and_true, true_and]; omega)
    · simp [selOk, pos]
    · simp
    · first | exact ⟨rfl, rfl⟩ | (simp only [go_sem, Nat.reduceBEq, Nat.reduceLT, Nat.reduceAdd, Nat.reduceLeDiff, Nat.reduceSub, Nat.reduceEqDiff, Int.reduceToNat, reduceCtorEq, ↓reduceIte]; done) | (simp [go_sem, Nat.reduceBEq, Nat.reduceLT, Nat.reduceAdd, Nat.reduceLeDiff, Nat.reduceSub, Nat.reduceEqDiff, Int.reduceToNat, reduceCtorEq, ↓reduceIte]; done) | (simp only [go_sem, Nat.reduceBEq, Nat.reduceLT, Nat.reduceAdd, Nat.reduceLeDiff, Nat.reduceSub, Nat.reduceEqDiff, Int.reduceToNat, reduceCtorEq, ↓reduceIte]; exact ⟨rfl, rfl⟩) | (simp_all [go_sem, Nat.reduceBEq, Nat.reduceLT, Nat.reduceAdd, Nat.reduceLeDiff, Nat.reduceSub, Nat.reduceEqDiff, Int.reduceToNat, reduceCtorEq, ↓reduceIte]; done)
theorem k_laws_toGraphS (a0 : List (Int × List (Int × Int × Int))) {r : (List (Int × List (Int × Int × Int)))} (h : laws_toGraphS a0 = some r) :
    FnA Try.prog 18 [.sl 0] [.row false (.graphs a0)] [] (fun x H => x = .sl 1 ∧ H = [.row false (.graphs a0), .row true (.graphs r)]) := by
  unfold laws_toGraphS at h
  refine FnA.of (N := 23) (pin := [0]) (rs := [.tmp 2]) Try.func18 rfl en18 rfl rfl (by simp) (by simp; try omega) ?_
  refine awp_reg ftCOk [(0, .sl 0)] [.row false (.graphs a0)] ?_
  replace h := chk_some h
  obtain ⟨hp0, h⟩ := h
  refine awp_reg ftCOk [(0, .sl 0), (3, .sl 1)] [.row false (.graphs a0), .row true (.graphs (List.replicate ((a0.length : Int).toNat) (0, [])))] ?_
  clear hp0
  refine awp_seq fun K26 hK26 => ?_
  refine awp_reg ftCOk [(0, .sl 0), (3, .sl 1), (4, .v (.int .i64 0))] [.row false (.graphs a0), .row true (.graphs (List.replicate ((a0.length : Int).toNat) (0, [])))] ?_
  refine awp_block ?_
  replace h := bind_some h
  obtain ⟨t3s_1, hx, h⟩ := h
  refine awp_loopL hx (fun ((t4, t3s) : Int × (List (Int × List (Int × Int × Int)))) => [(0, .sl 0), (3, .sl 1), (4, .v (.int .i64 t4))]) (fun ((t4, t3s) : Int × (List (Int × List (Int × Int × Int)))) => [.row false (.graphs a0), .row true (.graphs t3s)]) (fun (t3s_1 : List (Int × List (Int × Int × Int))) => Exit.exit 0) (fun (t3s_1 : List (Int × List (Int × Int × Int))) => [(3, .sl 1)]) (fun (t3s_1 : List (Int × List (Int × Int × Int))) => [.row false (.graphs a0), .row true (.graphs t3s_1)]) ?_ ?_ ?_ ?_
  · rintro t3s_1 hy <;> cases hy
  · clear h hx
    exact Red.auto
  · clear h hx
    rintro ⟨t4, t3s⟩ r h
    unfold laws_toGraphS_b0 at h
    try dsimp only at h
    try dsimp only
    refine awp_seq fun K44 hK44 => ?_
    refine awp_reg ftCOk [(0, .sl 0), (3, .sl 1), (4, .v (.int .i64 t4)), (11, .v (.bool (decide (t4 < (a0.length : Int)))))] [.row false (.graphs a0), .row true (.graphs t3s)] ?_
    refine awp_cond (t := 11) rfl (fun hc45 => ?_) (fun hc45 => ?_)
    · replace h := bite_t h hc45
      refine awp_skip ?_
      (try simp only [Thn, InBlk, ↓reduceIte, Nat.reduceEqDiff])
      refine hK44 _ _ ?_
      clear hK44
      refine awp_seq fun K48 hK48 => ?_
      refine awp_block ?_
      replace h := chk_some h
      obtain ⟨hpt50, h⟩ := h
      refine awp_take 0 t4.toNat 1 (by rfl) (by exact hpt50) (by rfl) (by exact rfl) ?_
      clear hpt50
      replace h := chk_some h
      obtain ⟨hpt49, h⟩ := h
      refine awp_take 1 t4.toNat 1 (by rfl) (by exact hpt49) (by rfl) (by exact rfl) ?_
      clear hpt49
      replace h := chk_some h
      obtain ⟨hp0, h⟩ := h
      replace h := bind_some h
      obtain ⟨⟨y, y_1⟩, hr1, h⟩ := h
      try dsimp only at h
      replace h := chk_some h
      obtain ⟨hp2, h⟩ := h
      refine awp_end [(0, .sl 0), (3, .sl 1), (4, .v (.int .i64 t4))] [.tak false (.graphs a0) t4.toNat 1 (some 2), .row true (.graphs (t3s.set t4.toNat (y, y_1))), .row false (.trips ((a0.getD t4.toNat (0, [])).2)), .row true (.trips ((t3s.getD t4.toNat (0, [])).2)), .view 1 (.trips y_1)] ?_ ?_
      · clear h
        intro K hK
        refine awp_region ftCOk ?_
        simp (maxSteps := 4000000) only [go_sem, Nat.reduceBEq, Nat.reduceLT, Nat.reduceAdd, Nat.reduceLeDiff, Nat.reduceSub, Nat.reduceEqDiff, Int.reduceToNat, reduceCtorEq, ↓reduceIte]
        repeat' (first | refine And.intro ?_ ?_ | intro hg)
        all_goals (try simp (disch := omega) only [wrap_fits])
        all_goals first
          | (refine hK _ _ ?_; exact Red.auto)
          | exact trivial
          | assumption
          | omega
          | exact wrap_fits (by omega) (by omega)
          | (refine wpA_callA (k_laws_toGraph ((a0.getD t4.toNat (0, [])).1) ((a0.getD t4.toNat (0, [])).2) (h := hr1)) [2] [] ?_
             rintro x Hc' ⟨rfl, rfl⟩ hlen
             refine vcOps_sound ftCOk ?_
             simp (maxSteps := 4000000) only [go_sem, Nat.reduceBEq, Nat.reduceLT, Nat.reduceAdd, Nat.reduceLeDiff, Nat.reduceSub, Nat.reduceEqDiff, Int.reduceToNat, reduceCtorEq, ↓reduceIte]
             repeat' (first | refine And.intro ?_ ?_ | intro hg)
             all_goals (try simp (disch := omega) only [wrap_fits])
             all_goals first
               | (refine hK _ _ ?_; exact Red.auto)
               | exact trivial
               | assumption
               | omega
               | exact wrap_fits (by omega) (by omega)
               | (simp_all; done)
               | (simp_all; omega))
          | (simp_all; done)
          | (simp_all; omega)
      · clear hp0 hr1 hp2
        (try simp only [Thn, InBlk, ↓reduceIte, Nat.reduceEqDiff])
        (try simp only [Thn, InBlk, ↓reduceIte, Nat.reduceEqDiff])
        refine hK48 _ _ ?_
        clear hK48
        refine awp_put 0 2 (by rfl) (by rfl) (Cont.setChild_self (by rfl)) (by exact rfl) ?_
        replace h := chk_some h
        obtain ⟨hp0, h⟩ := h
        refine awp_regE ftCOk [(0, .sl 0), (3, .sl 1), (4, .v (.int .i64 (t4 + 1)))] [.row false (.graphs a0), .row true (.graphs (t3s.set t4.toNat (y, y_1))), .row false (.trips ((a0.getD t4.toNat (0, [])).2)), .row true (.trips ((t3s.getD t4.toNat (0, [])).2)), .view 1 (.trips y_1)] ?_
        clear hp0
        obtain rfl := Option.some.inj h
        refine LoopQ.next ?_
        exact Red.selA [0, 1] Red.auto
    · replace h := bite_f h hc45
      refine awp_exit ?_
      (try simp only [Thn, InBlk, ↓reduceIte, Nat.reduceEqDiff])
      obtain rfl := Option.some.inj h
      refine LoopQ.out rfl ?_
      exact Red.auto
  · clear hx
    skip
    · try dsimp only [Sum.elim_inl, Sum.elim_inr] at h
      try dsimp only [Sum.elim_inl, Sum.elim_inr]
      (try simp only [Thn, InBlk, ↓reduceIte, Nat.reduceEqDiff])
      (try simp only [Thn, InBlk, ↓reduceIte, Nat.reduceEqDiff])
      (try simp only [Thn, InBlk, ↓reduceIte, Nat.reduceEqDiff])
      refine hK26 _ _ ?_
      clear hK26
      refine awp_reg ftCOk [(2, .sl 1)] [.row false (.graphs a0), .row true (.graphs t3s_1)] ?_
      refine awp_ret ?_
      (try simp only [Thn, InBlk, ↓reduceIte, Nat.reduceEqDiff])
      obtain rfl := Option.some.inj h
      refine ⟨by simp, _, [0, 1], (by simp only [go_sem, Nat.reduceBEq, Nat.reduceLT, Nat.reduceAdd, Nat.reduceLeDiff, Nat.reduceSub, Nat.reduceEqDiff, Int.reduceToNat, reduceCtorEq, ↓reduceIte]; exact rfl), ?_, ?_, ?_, ?_⟩
      · first | exact trivial | exact ⟨trivial, trivial⟩ | exact ⟨trivial, trivial, trivial⟩ | exact ⟨trivial, trivial, trivial, trivial⟩ | (simp only [allP, and_true, true_and]; done) | (simp only [allP, and_true, true_and]; omega)
      · simp [selOk, pos]
      · simp
      · first | exact ⟨rfl, rfl⟩ | (simp only [go_sem, Nat.reduceBEq, Nat.reduceLT, Nat.reduceAdd, Nat.reduceLeDiff, Nat.reduceSub, Nat.reduceEqDiff, Int.reduceToNat, reduceCtorEq, ↓reduceIte]; done) | (simp [go_sem, Nat.reduceBEq, Nat.reduceLT, Nat.reduceAdd, Nat.reduceLeDiff, Nat.reduceSub, Nat.reduceEqDiff, Int.reduceToNat, reduceCtorEq, ↓reduceIte]; done) | (simp only [go_sem, Nat.reduceBEq, Nat.reduceLT, Nat.reduceAdd, Nat.reduceLeDiff, Nat.reduceSub, Nat.reduceEqDiff, Int.reduceToNat, reduceCtorEq, ↓reduceIte]; exact ⟨rfl, rfl⟩) | (simp_all [go_sem, Nat.reduceBEq, Nat.reduceLT, Nat.reduceAdd, Nat.reduceLeDiff, Nat.reduceSub, Nat.reduceEqDiff, Int.reduceToNat, reduceCtorEq, ↓reduceIte]; done)
theorem k_spec_l1OwnGraph (a0_0 : Int) (a0_1 : List (Int × Int × Int)) {r : Int × (List (Int × Int × Int))} (h : spec_l1OwnGraph a0_0 a0_1 = some r) :
    FnA Try.prog 30 [.agg [.v (.int .i64 a0_0), .sl 0]] [.row false (.trips a0_1)] [] (fun x H => x = .agg [.v (.int .i64 r.1), .sl 1] ∧ H = [.row false (.trips a0_1), .row true (.trips r.2)]) := by
  unfold spec_l1OwnGraph at h
  refine FnA.of (N := 11) (pin := [0]) (rs := [.cell 2 25]) Try.func30 rfl en30 rfl rfl (by simp) (by simp; try omega) ?_
  refine awp_reg ftCOk [(1, .pp 1 0), (2, .pp 2 0)] [.row false (.trips a0_1), .box [.v (.int .i64 a0_0), .sl 0], .box [.v (.int .i64 0), .v (.slice none 0 0)]] ?_
  refine awp_freeze 1 (by rfl) (by rfl) (by exact rfl) ?_
  refine awp_reg ftCOk [(1, .pp 1 0), (2, .pp 2 0), (3, .pp 3 0)] [.row false (.trips a0_1), .rbox [.v (.int .i64 a0_0), .sl 0], .box [.v (.int .i64 0), .v (.slice none 0 0)], .box [.v (.int .i64 a0_0), .sl 0]] ?_
  replace h := chk_some h
  obtain ⟨hp0, h⟩ := h
  refine awp_reg ftCOk [(2, .pp 2 0), (3, .pp 3 0)] [.row false (.trips a0_1), .rbox [.v (.int .i64 a0_0), .sl 0], .box [.v (.int .i64 0), .v (.slice none 0 0)], .box [.v (.int .i64 a0_0), .sl 4], .row true (.trips ([] ++ a0_1))] ?_
  clear hp0
  refine awp_reg ftCOk [(2, .pp 2 0)] [.row false (.trips a0_1), .rbox [.v (.int .i64 a0_0), .sl 0], .box [.v (.int .i64 a0_0), .sl 4], .box [.v (.int .i64 a0_0), .sl 4], .row true (.trips ([] ++ a0_1))] ?_
  refine awp_ret ?_
  (try simp only [Thn, InBlk, ↓reduceIte, Nat.reduceEqDiff])
  obtain rfl := Option.some.inj h
  refine ⟨by simp, _, [0, 4], (by simp only [go_sem, Nat.reduceBEq, Nat.reduceLT, Nat.reduceAdd, Nat.reduceLeDiff, Nat.reduceSub, Nat.reduceEqDiff, Int.reduceToNat, reduceCtorEq, ↓reduceIte]; exact rfl), ?_, ?_, ?_, ?_⟩
  · first | exact trivial | exact ⟨trivial, trivial⟩ | exact ⟨trivial, trivial, trivial⟩ | exact ⟨trivial, trivial, trivial, trivial⟩ | (simp only [allP, and_true, true_and]; done) | (simp only [allP, and_true, true_and]; omega)
  · simp [selOk, pos]
  · simp
  · first | exact ⟨rfl, rfl⟩ | (simp only [go_sem, Nat.reduceBEq, Nat.reduceLT, Nat.reduceAdd, Nat.reduceLeDiff, Nat.reduceSub, Nat.reduceEqDiff, Int.reduceToNat, reduceCtorEq, ↓reduceIte]; done) | (simp [go_sem, Nat.reduceBEq, Nat.reduceLT, Nat.reduceAdd, Nat.reduceLeDiff, Nat.reduceSub, Nat.reduceEqDiff, Int.reduceToNat, reduceCtorEq, ↓reduceIte]; done) | (simp only [go_sem, Nat.reduceBEq, Nat.reduceLT, Nat.reduceAdd, Nat.reduceLeDiff, Nat.reduceSub, Nat.reduceEqDiff, Int.reduceToNat, reduceCtorEq, ↓reduceIte]; exact ⟨rfl, rfl⟩) | (simp_all [go_sem, Nat.reduceBEq, Nat.reduceLT, Nat.reduceAdd, Nat.reduceLeDiff, Nat.reduceSub, Nat.reduceEqDiff, Int.reduceToNat, reduceCtorEq, ↓reduceIte]; done)
theorem k_spec_l1OwnGraphList (a0 : List (Int × List (Int × Int × Int))) {r : (List (Int × List (Int × Int × Int)))} (h : spec_l1OwnGraphList a0 = some r) :
    FnA Try.prog 39 [.sl 0] [.row false (.graphs a0)] [] (fun x H => x = .sl 1 ∧ H = [.row false (.graphs a0), .row true (.graphs r)]) := by
  unfold spec_l1OwnGraphList at h
  refine FnA.of (N := 21) (pin := [0]) (rs := [.tmp 2]) Try.func39 rfl en39 rfl rfl (by simp) (by simp; try omega) ?_
  refine awp_reg ftCOk [(0, .sl 0)] [.row false (.graphs a0)] ?_
  refine awp_reg ftCOk [(0, .sl 0), (3, .sl 1)] [.row false (.graphs a0), .row true (.graphs [])] ?_
  refine awp_seq fun K20 hK20 => ?_
  refine awp_reg ftCOk [(0, .sl 0), (3, .sl 1), (4, .v (.int .i64 0))] [.row false (.graphs a0), .row true (.graphs [])] ?_
  refine awp_block ?_
  replace h := bind_some h
  obtain ⟨t3s_1, hx, h⟩ := h
  refine awp_loopL hx (fun ((t4, t3s) : Int × (List (Int × List (Int × Int × Int)))) => [(0, .sl 0), (3, .sl 1), (4, .v (.int .i64 t4))]) (fun ((t4, t3s) : Int × (List (Int × List (Int × Int × Int)))) => [.row false (.graphs a0), .row true (.graphs t3s)]) (fun (t3s_1 : List (Int × List (Int × Int × Int))) => Exit.exit 0) (fun (t3s_1 : List (Int × List (Int × Int × Int))) => [(3, .sl 1)]) (fun (t3s_1 : List (Int × List (Int × Int × Int))) => [.row false (.graphs a0), .row true (.graphs t3s_1)]) ?_ ?_ ?_ ?_
  · rintro t3s_1 hy <;> cases hy
  · clear h hx
    exact Red.auto
  · clear h hx
    rintro ⟨t4, t3s⟩ r h
    unfold spec_l1OwnGraphList_b0 at h
    try dsimp only at h
    try dsimp only
    refine awp_seq fun K34 hK34 => ?_
    refine awp_reg ftCOk [(0, .sl 0), (3, .sl 1), (4, .v (.int .i64 t4)), (9, .v (.bool (decide (t4 < (a0.length : Int)))))] [.row false (.graphs a0), .row true (.graphs t3s)] ?_
    refine awp_cond (t := 9) rfl (fun hc35 => ?_) (fun hc35 => ?_)
    · replace h := bite_t h hc35
      refine awp_skip ?_
      (try simp only [Thn, InBlk, ↓reduceIte, Nat.reduceEqDiff])
      refine hK34 _ _ ?_
      clear hK34
      refine awp_seq fun K37 hK37 => ?_
      refine awp_block ?_
      replace h := chk_some h
      obtain ⟨hpt38, h⟩ := h
      refine awp_take 0 t4.toNat 1 (by rfl) (by exact hpt38) (by rfl) (by exact rfl) ?_
      clear hpt38
      replace h := chk_some h
      obtain ⟨hp0, h⟩ := h
      replace h := bind_some h
      obtain ⟨⟨y, y_1⟩, hr1, h⟩ := h
      try dsimp only at h
      replace h := chk_some h
      obtain ⟨hp2, h⟩ := h
      refine awp_end [(0, .sl 0), (3, .sl 1), (4, .v (.int .i64 t4))] [.tak false (.graphs a0) t4.toNat 1 (some 2), .tak true (.graphs (t3s ++ [(y, [])])) t3s.length 1 (some 3), .row false (.trips ((a0.getD t4.toNat (0, [])).2)), .row true (.trips y_1), .tak true (.graphs [(y, [])]) 0 1 (some 3)] ?_ ?_
      · clear h
        intro K hK
        refine awp_region ftCOk ?_
        simp (maxSteps := 4000000) only [go_sem, Nat.reduceBEq, Nat.reduceLT, Nat.reduceAdd, Nat.reduceLeDiff, Nat.reduceSub, Nat.reduceEqDiff, Int.reduceToNat, reduceCtorEq, ↓reduceIte]
        repeat' (first | refine And.intro ?_ ?_ | intro hg)
        all_goals (try simp (disch := omega) only [wrap_fits])
        all_goals first
          | (refine hK _ _ ?_; exact Red.auto)
          | exact trivial
          | assumption
          | omega
          | exact wrap_fits (by omega) (by omega)
          | (refine wpA_callA (k_spec_l1OwnGraph ((a0.getD t4.toNat (0, [])).1) ((a0.getD t4.toNat (0, [])).2) (h := hr1)) [2] [] ?_
             rintro x Hc' ⟨rfl, rfl⟩ hlen
             refine vcOps_sound ftCOk ?_
             simp (maxSteps := 4000000) only [go_sem, Nat.reduceBEq, Nat.reduceLT, Nat.reduceAdd, Nat.reduceLeDiff, Nat.reduceSub, Nat.reduceEqDiff, Int.reduceToNat, reduceCtorEq, ↓reduceIte]
             repeat' (first | refine And.intro ?_ ?_ | intro hg)
             all_goals (try simp (disch := omega) only [wrap_fits])
             all_goals first
               | (refine hK _ _ ?_; exact Red.auto)
               | exact trivial
               | assumption
               | omega
               | exact wrap_fits (by omega) (by omega)
               | (simp_all; done)
               | (simp_all; omega))
          | (simp_all; done)
          | (simp_all; omega)
      · clear hp0 hr1 hp2
        (try simp only [Thn, InBlk, ↓reduceIte, Nat.reduceEqDiff])
        (try simp only [Thn, InBlk, ↓reduceIte, Nat.reduceEqDiff])
        refine hK37 _ _ ?_
        clear hK37
        refine awp_put 0 2 (by rfl) (by rfl) (Cont.setChild_self (by rfl)) (by exact rfl) ?_
        refine awp_put 1 3 (by rfl) (by rfl) (by rfl) (by exact rfl) ?_
        replace h := chk_some h
        obtain ⟨hp0, h⟩ := h
        refine awp_regE ftCOk [(0, .sl 0), (3, .sl 1), (4, .v (.int .i64 (t4 + 1)))] [.row false (.graphs a0), .row true (.graphs ((t3s ++ [(y, [])]).set t3s.length (((t3s ++ [(y, [])]).getD t3s.length (0, [])).1, y_1))), .row false (.trips ((a0.getD t4.toNat (0, [])).2)), .view 1 (.trips y_1), .tak true (.graphs [(y, [])]) 0 1 (some 3)] ?_
        clear hp0
        obtain rfl := Option.some.inj h
        refine LoopQ.next ?_
        exact Red.selA [0, 1] Red.auto
    · replace h := bite_f h hc35
      refine awp_exit ?_
      (try simp only [Thn, InBlk, ↓reduceIte, Nat.reduceEqDiff])
      obtain rfl := Option.some.inj h
      refine LoopQ.out rfl ?_
      exact Red.auto
  · clear hx
    skip
    · try dsimp only [Sum.elim_inl, Sum.elim_inr] at h
      try dsimp only [Sum.elim_inl, Sum.elim_inr]
      (try simp only [Thn, InBlk, ↓reduceIte, Nat.reduceEqDiff])
      (try simp only [Thn, InBlk, ↓reduceIte, Nat.reduceEqDiff])
      (try simp only [Thn, InBlk, ↓reduceIte, Nat.reduceEqDiff])
      refine hK20 _ _ ?_
      clear hK20
      refine awp_reg ftCOk [(2, .sl 1)] [.row false (.graphs a0), .row true (.graphs t3s_1)] ?_
      refine awp_ret ?_
      (try simp only [Thn, InBlk, ↓reduceIte, Nat.reduceEqDiff])
      obtain rfl := Option.some.inj h
      refine ⟨by simp, _, [0, 1], (by simp only [go_sem, Nat.reduceBEq, Nat.reduceLT, Nat.reduceAdd, Nat.reduceLeDiff, Nat.reduceSub, Nat.reduceEqDiff, Int.reduceToNat, reduceCtorEq, ↓reduceIte]; exact rfl), ?_, ?_, ?_, ?_⟩
      · first | exact trivial | exact ⟨trivial, trivial⟩ | exact ⟨trivial, trivial, trivial⟩ | exact ⟨trivial, trivial, trivial, trivial⟩ | (simp only [allP, and_true, true_and]; done) | (simp only [allP, and_true, true_and]; omega)
      · simp [selOk, pos]
      · simp
      · first | exact ⟨rfl, rfl⟩ | (simp only [go_sem, Nat.reduceBEq, Nat.reduceLT, Nat.reduceAdd, Nat.reduceLeDiff, Nat.reduceSub, Nat.reduceEqDiff, Int.reduceToNat, reduceCtorEq, ↓reduceIte]; done) | (simp [go_sem, Nat.reduceBEq, Nat.reduceLT, Nat.reduceAdd, Nat.reduceLeDiff, Nat.reduceSub, Nat.reduceEqDiff, Int.reduceToNat, reduceCtorEq, ↓reduceIte]; done) | (simp only [go_sem, Nat.reduceBEq, Nat.reduceLT, Nat.reduceAdd, Nat.reduceLeDiff, Nat.reduceSub, Nat.reduceEqDiff, Int.reduceToNat, reduceCtorEq, ↓reduceIte]; exact ⟨rfl, rfl⟩) | (simp_all [go_sem, Nat.reduceBEq, Nat.reduceLT, Nat.reduceAdd, Nat.reduceLeDiff, Nat.reduceSub, Nat.reduceEqDiff, Int.reduceToNat, reduceCtorEq, ↓reduceIte]; done)
theorem k_spec_GraphValid (a0_0 : Int) (a0_1 : List (Int × Int × Int)) {r : Bool} (h : spec_GraphValid a0_0 a0_1 = some r) :
    FnA Try.prog 10 [.agg [.v (.int .i64 a0_0), .sl 0]] [.row false (.trips a0_1)] [] (fun x H => x = .v (.bool r) ∧ H = [.row false (.trips a0_1)]) := by
  unfold spec_GraphValid at h
  refine FnA.of (N := 70) (pin := [0]) (rs := [.tmp 2]) Try.func10 rfl en10 rfl rfl (by simp) (by simp; try omega) ?_
  refine awp_reg ftCOk [(1, .pp 1 0)] [.row false (.trips a0_1), .box [.v (.int .i64 a0_0), .sl 0]] ?_
  refine awp_freeze 1 (by rfl) (by rfl) (by exact rfl) ?_
  refine awp_seq fun K20 hK20 => ?_
  refine awp_reg ftCOk [(1, .pp 1 0), (3, .v (.int .i64 0))] [.row false (.trips a0_1), .rbox [.v (.int .i64 a0_0), .sl 0]] ?_
  refine awp_block ?_
  replace h := bind_some h
  obtain ⟨x39, hx, h⟩ := h
  refine awp_loopL hx (fun (t3 : Int) => [(1, .pp 1 0), (3, .v (.int .i64 t3))]) (fun (t3 : Int) => [.row false (.trips a0_1), .rbox [.v (.int .i64 a0_0), .sl 0]]) (Sum.elim (fun (_ : Unit) => Exit.exit 0) (fun (_ : Unit) => Exit.ret)) (Sum.elim (fun (_ : Unit) => [(1, .pp 1 0)]) (fun (_ : Unit) => [(2, .v (.bool false))])) (Sum.elim (fun (_ : Unit) => [.row false (.trips a0_1), .rbox [.v (.int .i64 a0_0), .sl 0]]) (fun (_ : Unit) => [.row false (.trips a0_1)])) ?_ ?_ ?_ ?_
  · rintro (⟨⟩ | ⟨⟩) hy <;> cases hy
  · clear h hx
    exact Red.auto
  · clear h hx
    rintro t3 r h
    unfold spec_GraphValid_b0 at h
    try dsimp only at h
    try dsimp only
    refine awp_seq fun K34 hK34 => ?_
    refine awp_reg ftCOk [(1, .pp 1 0), (3, .v (.int .i64 t3)), (9, .v (.bool (decide (t3 < (a0_1.length : Int)))))] [.row false (.trips a0_1), .rbox [.v (.int .i64 a0_0), .sl 0]] ?_
    refine awp_cond (t := 9) rfl (fun hc35 => ?_) (fun hc35 => ?_)
    · replace h := bite_t h hc35
      refine awp_skip ?_
      (try simp only [Thn, InBlk, ↓reduceIte, Nat.reduceEqDiff])
      refine hK34 _ _ ?_
      clear hK34
      refine awp_seq fun K37 hK37 => ?_
      refine awp_block ?_
      replace h := chk_some h
      obtain ⟨hp0, h⟩ := h
      refine awp_reg ftCOk [(1, .pp 1 0), (3, .v (.int .i64 t3)), (4, .pp 2 0)] [.row false (.trips a0_1), .rbox [.v (.int .i64 a0_0), .sl 0], .box [.v (.int .i64 ((a0_1.getD t3.toNat (0, 0, 0)).1)), .v (.int .i64 ((a0_1.getD t3.toNat (0, 0, 0)).2.1)), .v (.int .i64 ((a0_1.getD t3.toNat (0, 0, 0)).2.2))]] ?_
      clear hp0
      replace h := chk_some h
      obtain ⟨hp0, h⟩ := h
      have hwhp0 := wrap_fits hp0.1 hp0.2
      replace h := chk_some h
      obtain ⟨hp1, h⟩ := h
      refine awp_to [(1, .pp 1 0), (3, .v (.int .i64 t3)), (60, .v (.bool (((((!(decide (0 ≤ (a0_1.getD t3.toNat (0, 0, 0)).1) && decide ((a0_1.getD t3.toNat (0, 0, 0)).1 ≤ (IntKind.i64.wrap (a0_0 - 1))))) || (!(decide (0 ≤ (a0_1.getD t3.toNat (0, 0, 0)).2.1) && decide ((a0_1.getD t3.toNat (0, 0, 0)).2.1 ≤ (IntKind.i64.wrap (a0_0 - 1)))))) || ((a0_1.getD t3.toNat (0, 0, 0)).1 == (a0_1.getD t3.toNat (0, 0, 0)).2.1)) || (!(decide (0 ≤ (a0_1.getD t3.toNat (0, 0, 0)).2.2) && decide ((a0_1.getD t3.toNat (0, 0, 0)).2.2 ≤ 20)))) || ((decide (0 < t3)) && (!(decide ((a0_1.getD ((t3 - 1).toNat) (0, 0, 0)).1 < (a0_1.getD t3.toNat (0, 0, 0)).1 ∨ (a0_1.getD ((t3 - 1).toNat) (0, 0, 0)).1 = (a0_1.getD t3.toNat (0, 0, 0)).1 ∧ (a0_1.getD ((t3 - 1).toNat) (0, 0, 0)).2.1 < (a0_1.getD t3.toNat (0, 0, 0)).2.1)))))))] [.row false (.trips a0_1), .rbox [.v (.int .i64 a0_0), .sl 0], .box [.v (.int .i64 ((a0_1.getD t3.toNat (0, 0, 0)).1)), .v (.int .i64 ((a0_1.getD t3.toNat (0, 0, 0)).2.1)), .v (.int .i64 ((a0_1.getD t3.toNat (0, 0, 0)).2.2))]] ?_ ?_
      · clear h
        intro K hK
        refine awp_quietg mixed ftCOk (by kernel_rfl) ?_
        simp (maxSteps := 4000000) only [go_sem, Nat.reduceBEq, Nat.reduceLT, Nat.reduceAdd, Nat.reduceLeDiff, Nat.reduceSub, Nat.reduceEqDiff, Int.reduceToNat, reduceCtorEq, ↓reduceIte]
        repeat' (first | refine And.intro ?_ ?_ | intro hg)
        all_goals (try simp (disch := omega) only [wrap_fits])
        all_goals first
          | (refine hK _ _ ?_; exact Red.auto)
          | exact trivial
          | assumption
          | omega
          | exact wrap_fits (by omega) (by omega)
          | (have hq := hp1 (by first | assumption | (simp only [*, Bool.false_or, Bool.true_or, Bool.or_false, Bool.or_true, Bool.false_and, Bool.true_and, Bool.and_false, Bool.and_true, Bool.not_true, Bool.not_false, beq_self_eq_true]; done) | (simp_all; done)) (by first | assumption | (simp only [*, Bool.false_or, Bool.true_or, Bool.or_false, Bool.or_true, Bool.false_and, Bool.true_and, Bool.and_false, Bool.and_true, Bool.not_true, Bool.not_false, beq_self_eq_true]; done) | (simp_all; done)); omega)
          | (simp_all; done)
          | (simp_all; omega)
      · clear hp0 hp1
        refine awp_cond (t := 60) rfl (fun hc38 => ?_) (fun hc38 => ?_)
        · replace h := bite_t h hc38
          refine awp_reg ftCOk [(2, .v (.bool false))] [.row false (.trips a0_1), .rbox [.v (.int .i64 a0_0), .sl 0], .box [.v (.int .i64 ((a0_1.getD t3.toNat (0, 0, 0)).1)), .v (.int .i64 ((a0_1.getD t3.toNat (0, 0, 0)).2.1)), .v (.int .i64 ((a0_1.getD t3.toNat (0, 0, 0)).2.2))]] ?_
          refine awp_ret ?_
          (try simp only [Thn, InBlk, ↓reduceIte, Nat.reduceEqDiff])
          obtain rfl := Option.some.inj h
          refine LoopQ.out rfl ?_
          exact Red.selA [0] Red.auto
        · replace h := bite_f h hc38
          refine awp_skip ?_
          (try simp only [Thn, InBlk, ↓reduceIte, Nat.reduceEqDiff])
          (try simp only [Thn, InBlk, ↓reduceIte, Nat.reduceEqDiff])
          refine hK37 _ _ ?_
          clear hK37
          replace h := chk_some h
          obtain ⟨hp0, h⟩ := h
          refine awp_regE ftCOk [(1, .pp 1 0), (3, .v (.int .i64 (t3 + 1)))] [.row false (.trips a0_1), .rbox [.v (.int .i64 a0_0), .sl 0], .box [.v (.int .i64 ((a0_1.getD t3.toNat (0, 0, 0)).1)), .v (.int .i64 ((a0_1.getD t3.toNat (0, 0, 0)).2.1)), .v (.int .i64 ((a0_1.getD t3.toNat (0, 0, 0)).2.2))]] ?_
          clear hp0
          obtain rfl := Option.some.inj h
          refine LoopQ.next ?_
          exact Red.selA [0, 1] Red.auto
    · replace h := bite_f h hc35
      refine awp_exit ?_
      (try simp only [Thn, InBlk, ↓reduceIte, Nat.reduceEqDiff])
      obtain rfl := Option.some.inj h
      refine LoopQ.out rfl ?_
      exact Red.auto
  · clear hx
    rcases x39 with (⟨⟩ | ⟨⟩)
    · try dsimp only [Sum.elim_inl, Sum.elim_inr] at h
      try dsimp only [Sum.elim_inl, Sum.elim_inr]
      (try simp only [Thn, InBlk, ↓reduceIte, Nat.reduceEqDiff])
      (try simp only [Thn, InBlk, ↓reduceIte, Nat.reduceEqDiff])
      (try simp only [Thn, InBlk, ↓reduceIte, Nat.reduceEqDiff])
      refine hK20 _ _ ?_
      clear hK20
      refine awp_reg ftCOk [(2, .v (.bool ((decide (0 ≤ a0_0) && decide (a0_0 ≤ 16)) && (decide ((a0_1.length : Int) ≤ 40)))))] [.row false (.trips a0_1), .rbox [.v (.int .i64 a0_0), .sl 0]] ?_
      refine awp_ret ?_
      (try simp only [Thn, InBlk, ↓reduceIte, Nat.reduceEqDiff])
      obtain rfl := Option.some.inj h
      refine ⟨by simp, _, [0], (by simp only [go_sem, Nat.reduceBEq, Nat.reduceLT, Nat.reduceAdd, Nat.reduceLeDiff, Nat.reduceSub, Nat.reduceEqDiff, Int.reduceToNat, reduceCtorEq, ↓reduceIte]; exact rfl), ?_, ?_, ?_, ?_⟩
      · first | exact trivial | exact ⟨trivial, trivial⟩ | exact ⟨trivial, trivial, trivial⟩ | exact ⟨trivial, trivial, trivial, trivial⟩ | (simp only [allP, and_true, true_and]; done) | (simp only [allP, and_true, true_and]; omega)
      · simp [selOk, pos]
      · simp
      · first | exact ⟨rfl, rfl⟩ | (simp only [go_sem, Nat.reduceBEq, Nat.reduceLT, Nat.reduceAdd, Nat.reduceLeDiff, Nat.reduceSub, Nat.reduceEqDiff, Int.reduceToNat, reduceCtorEq, ↓reduceIte]; done) | (simp [go_sem, Nat.reduceBEq, Nat.reduceLT, Nat.reduceAdd, Nat.reduceLeDiff, Nat.reduceSub, Nat.reduceEqDiff, Int.reduceToNat, reduceCtorEq, ↓reduceIte]; done) | (simp only [go_sem, Nat.reduceBEq, Nat.reduceLT, Nat.reduceAdd, Nat.reduceLeDiff, Nat.reduceSub, Nat.reduceEqDiff, Int.reduceToNat, reduceCtorEq, ↓reduceIte]; exact ⟨rfl, rfl⟩) | (simp_all [go_sem, Nat.reduceBEq, Nat.reduceLT, Nat.reduceAdd, Nat.reduceLeDiff, Nat.reduceSub, Nat.reduceEqDiff, Int.reduceToNat, reduceCtorEq, ↓reduceIte]; done)
    · try dsimp only [Sum.elim_inl, Sum.elim_inr] at h
      try dsimp only [Sum.elim_inl, Sum.elim_inr]
      (try simp only [Thn, InBlk, ↓reduceIte, Nat.reduceEqDiff])
      obtain rfl := Option.some.inj h
      refine ⟨by simp, _, [0], (by simp only [go_sem, Nat.reduceBEq, Nat.reduceLT, Nat.reduceAdd, Nat.reduceLeDiff, Nat.reduceSub, Nat.reduceEqDiff, Int.reduceToNat, reduceCtorEq, ↓reduceIte]; exact rfl), ?_, ?_, ?_, ?_⟩
      · first | exact trivial | exact ⟨trivial, trivial⟩ | exact ⟨trivial, trivial, trivial⟩ | exact ⟨trivial, trivial, trivial, trivial⟩ | (simp only [allP, and_true, true_and]; done) | (simp only [allP, and_true, true_and]; omega)
      · simp [selOk, pos]
      · simp
      · first | exact ⟨rfl, rfl⟩ | (simp only [go_sem, Nat.reduceBEq, Nat.reduceLT, Nat.reduceAdd, Nat.reduceLeDiff, Nat.reduceSub, Nat.reduceEqDiff, Int.reduceToNat, reduceCtorEq, ↓reduceIte]; done) | (simp [go_sem, Nat.reduceBEq, Nat.reduceLT, Nat.reduceAdd, Nat.reduceLeDiff, Nat.reduceSub, Nat.reduceEqDiff, Int.reduceToNat, reduceCtorEq, ↓reduceIte]; done) | (simp only [go_sem, Nat.reduceBEq, Nat.reduceLT, Nat.reduceAdd, Nat.reduceLeDiff, Nat.reduceSub, Nat.reduceEqDiff, Int.reduceToNat, reduceCtorEq, ↓reduceIte]; exact ⟨rfl, rfl⟩) | (simp_all [go_sem, Nat.reduceBEq, Nat.reduceLT, Nat.reduceAdd, Nat.reduceLeDiff, Nat.reduceSub, Nat.reduceEqDiff, Int.reduceToNat, reduceCtorEq, ↓reduceIte]; done)
theorem k_spec_AddEdge (a0_0 : Int) (a0_1 : List (Int × Int × Int)) (a1_0 : Int) (a1_1 : Int) (a1_2 : Int) {r : Int × (List (Int × Int × Int)) × Bool} (h : spec_AddEdge a0_0 a0_1 a1_0 a1_1 a1_2 = some r) :
    FnA Try.prog 40 [.agg [.v (.int .i64 a0_0), .sl 0], .agg [.v (.int .i64 a1_0), .v (.int .i64 a1_1), .v (.int .i64 a1_2)]] [.row false (.trips a0_1)] [] (fun x H => x = .tup [.agg [.v (.int .i64 r.1), .sl 1], .v (.bool r.2.2)] ∧ H = [.row false (.trips a0_1), .row true (.trips r.2.1)]) := by
  unfold spec_AddEdge at h
  refine FnA.of (N := 82) (pin := [0]) (rs := [.cell 4 25, .tmp 5]) Try.func40 rfl en40 rfl rfl (by simp) (by simp; try omega) ?_
  refine awp_reg ftCOk [(2, .pp 1 0), (3, .pp 2 0), (4, .pp 3 0)] [.row false (.trips a0_1), .box [.v (.int .i64 a0_0), .sl 0], .box [.v (.int .i64 a1_0), .v (.int .i64 a1_1), .v (.int .i64 a1_2)], .box [.v (.int .i64 0), .v (.slice none 0 0)]] ?_
  refine awp_freeze 3 (by rfl) (by rfl) (by exact rfl) ?_
  replace h := bind_some h
  obtain ⟨⟨y, y_1⟩, hr0, h⟩ := h
  try dsimp only at h
  refine awp_to [(2, .pp 1 0), (3, .pp 2 0), (4, .pp 3 0)] [.row false (.trips a0_1), .box [.v (.int .i64 y), .sl 4], .rbox [.v (.int .i64 a1_0), .v (.int .i64 a1_1), .v (.int .i64 a1_2)], .box [.v (.int .i64 0), .v (.slice none 0 0)], .row true (.trips y_1)] ?_ ?_
  · clear h
    intro K hK
    refine awp_region ftCOk ?_
    simp (maxSteps := 4000000) only [go_sem, Nat.reduceBEq, Nat.reduceLT, Nat.reduceAdd, Nat.reduceLeDiff, Nat.reduceSub, Nat.reduceEqDiff, Int.reduceToNat, reduceCtorEq, ↓reduceIte]
    repeat' (first | refine And.intro ?_ ?_ | intro hg)
    all_goals (try simp (disch := omega) only [wrap_fits])
    all_goals first
      | (refine hK _ _ ?_; exact Red.auto)
      | exact trivial
      | assumption
      | omega
      | exact wrap_fits (by omega) (by omega)
      | (refine wpA_callA (k_spec_l1OwnGraph a0_0 a0_1 (h := hr0)) [0] [] ?_
         rintro x Hc' ⟨rfl, rfl⟩ hlen
         refine vcOps_sound ftCOk ?_
         simp (maxSteps := 4000000) only [go_sem, Nat.reduceBEq, Nat.reduceLT, Nat.reduceAdd, Nat.reduceLeDiff, Nat.reduceSub, Nat.reduceEqDiff, Int.reduceToNat, reduceCtorEq, ↓reduceIte]
         repeat' (first | refine And.intro ?_ ?_ | intro hg)
         all_goals (try simp (disch := omega) only [wrap_fits])
         all_goals first
           | (refine hK _ _ ?_; exact Red.auto)
           | exact trivial
           | assumption
           | omega
           | exact wrap_fits (by omega) (by omega)
           | (simp_all; done)
           | (simp_all; omega))
      | (simp_all; done)
      | (simp_all; omega)
  · clear hr0
    refine awp_seq fun K2 hK2 => ?_
    replace h := bind_some h
    obtain ⟨y_2, hr0, h⟩ := h
    try dsimp only at h
    refine awp_to [(2, .pp 1 0), (3, .pp 2 0), (4, .pp 3 0), (14, .v (.bool (!y_2)))] [.row false (.trips a0_1), .box [.v (.int .i64 y), .sl 4], .rbox [.v (.int .i64 a1_0), .v (.int .i64 a1_1), .v (.int .i64 a1_2)], .box [.v (.int .i64 0), .v (.slice none 0 0)], .row true (.trips y_1)] ?_ ?_
    · clear h
      intro K hK
      refine awp_region ftCOk ?_
      simp (maxSteps := 4000000) only [go_sem, Nat.reduceBEq, Nat.reduceLT, Nat.reduceAdd, Nat.reduceLeDiff, Nat.reduceSub, Nat.reduceEqDiff, Int.reduceToNat, reduceCtorEq, ↓reduceIte]
      repeat' (first | refine And.intro ?_ ?_ | intro hg)
      all_goals (try simp (disch := omega) only [wrap_fits])
      all_goals first
        | (refine hK _ _ ?_; exact Red.auto)
        | exact trivial
        | assumption
        | omega
        | exact wrap_fits (by omega) (by omega)
        | (refine wpA_callA (k_spec_GraphValid y y_1 (h := hr0)) [4] [] ?_
           rintro x Hc' ⟨rfl, rfl⟩ hlen
           refine vcOps_sound ftCOk ?_
           simp (maxSteps := 4000000) only [go_sem, Nat.reduceBEq, Nat.reduceLT, Nat.reduceAdd, Nat.reduceLeDiff, Nat.reduceSub, Nat.reduceEqDiff, Int.reduceToNat, reduceCtorEq, ↓reduceIte]
           repeat' (first | refine And.intro ?_ ?_ | intro hg)
           all_goals (try simp (disch := omega) only [wrap_fits])
           all_goals first
             | (refine hK _ _ ?_; exact Red.auto)
             | exact trivial
             | assumption
             | omega
             | exact wrap_fits (by omega) (by omega)
             | (simp_all; done)
             | (simp_all; omega))
        | (simp_all; done)
        | (simp_all; omega)
    · clear hr0
      refine awp_cond (t := 14) rfl (fun hc3 => ?_) (fun hc3 => ?_)
      · replace h := bite_t h hc3
        refine awp_reg ftCOk [(4, .pp 3 0), (5, .v (.bool false))] [.row false (.trips a0_1), .box [.v (.int .i64 y), .sl 4], .rbox [.v (.int .i64 a1_0), .v (.int .i64 a1_1), .v (.int .i64 a1_2)], .box [.v (.int .i64 0), .v (.slice none 0 0)], .row true (.trips y_1)] ?_
        refine awp_red (Red.nilCell (o := 3) (i := 1) (.trips []) rfl rfl rfl) ?_
        refine awp_ret ?_
        (try simp only [Thn, InBlk, ↓reduceIte, Nat.reduceEqDiff])
        obtain rfl := Option.some.inj h
        refine ⟨by simp, _, [0, 5], (by simp only [go_sem, Nat.reduceBEq, Nat.reduceLT, Nat.reduceAdd, Nat.reduceLeDiff, Nat.reduceSub, Nat.reduceEqDiff, Int.reduceToNat, reduceCtorEq, ↓reduceIte]; exact rfl), ?_, ?_, ?_, ?_⟩
        · first | exact trivial | exact ⟨trivial, trivial⟩ | exact ⟨trivial, trivial, trivial⟩ | exact ⟨trivial, trivial, trivial, trivial⟩ | (simp only [allP, and_true, true_and]; done) | (simp only [allP, and_true, true_and]; omega)
        · simp [selOk, pos]
        · simp
        · first | exact ⟨rfl, rfl⟩ | (simp only [go_sem, Nat.reduceBEq, Nat.reduceLT, Nat.reduceAdd, Nat.reduceLeDiff, Nat.reduceSub, Nat.reduceEqDiff, Int.reduceToNat, reduceCtorEq, ↓reduceIte]; done) | (simp [go_sem, Nat.reduceBEq, Nat.reduceLT, Nat.reduceAdd, Nat.reduceLeDiff, Nat.reduceSub, Nat.reduceEqDiff, Int.reduceToNat, reduceCtorEq, ↓reduceIte]; done) | (simp only [go_sem, Nat.reduceBEq, Nat.reduceLT, Nat.reduceAdd, Nat.reduceLeDiff, Nat.reduceSub, Nat.reduceEqDiff, Int.reduceToNat, reduceCtorEq, ↓reduceIte]; exact ⟨rfl, rfl⟩) | (simp_all [go_sem, Nat.reduceBEq, Nat.reduceLT, Nat.reduceAdd, Nat.reduceLeDiff, Nat.reduceSub, Nat.reduceEqDiff, Int.reduceToNat, reduceCtorEq, ↓reduceIte]; done)
      · replace h := bite_f h hc3
        refine awp_skip ?_
        (try simp only [Thn, InBlk, ↓reduceIte, Nat.reduceEqDiff])
        refine hK2 _ _ ?_
        clear hK2
        refine awp_reg ftCOk [(2, .pp 1 0), (3, .pp 2 0), (4, .pp 3 0), (6, .pp 5 0)] [.row false (.trips a0_1), .box [.v (.int .i64 y), .sl 4], .rbox [.v (.int .i64 a1_0), .v (.int .i64 a1_1), .v (.int .i64 a1_2)], .box [.v (.int .i64 0), .v (.slice none 0 0)], .row true (.trips y_1), .box [.v (.int .i64 y), .v (.slice none 0 0)]] ?_
        refine awp_reg ftCOk [(2, .pp 1 0), (3, .pp 2 0), (4, .pp 3 0), (6, .pp 5 0), (7, .v (.bool false))] [.row false (.trips a0_1), .box [.v (.int .i64 y), .sl 4], .rbox [.v (.int .i64 a1_0), .v (.int .i64 a1_1), .v (.int .i64 a1_2)], .box [.v (.int .i64 0), .v (.slice none 0 0)], .row true (.trips y_1), .box [.v (.int .i64 y), .v (.slice none 0 0)]] ?_
        refine awp_seq fun K49 hK49 => ?_
        refine awp_reg ftCOk [(2, .pp 1 0), (3, .pp 2 0), (4, .pp 3 0), (6, .pp 5 0), (7, .v (.bool false)), (8, .v (.int .i64 0))] [.row false (.trips a0_1), .box [.v (.int .i64 y), .sl 4], .rbox [.v (.int .i64 a1_0), .v (.int .i64 a1_1), .v (.int .i64 a1_2)], .box [.v (.int .i64 0), .v (.slice none 0 0)], .row true (.trips y_1), .box [.v (.int .i64 y), .v (.slice none 0 0)]] ?_
        refine awp_block ?_
        replace h := bind_some h
        obtain ⟨x94, hx, h⟩ := h
        refine awp_loopL hx (fun ((t7, t8, t6_1s) : Bool × Int × (List (Int × Int × Int))) => [(2, .pp 1 0), (3, .pp 3 0), (4, .pp 4 0), (6, .pp 5 0), (7, .v (.bool t7)), (8, .v (.int .i64 t8))]) (fun ((t7, t8, t6_1s) : Bool × Int × (List (Int × Int × Int))) => [.row false (.trips a0_1), .box [.v (.int .i64 y), .sl 2], .row true (.trips y_1), .rbox [.v (.int .i64 a1_0), .v (.int .i64 a1_1), .v (.int .i64 a1_2)], .box [.v (.int .i64 0), .v (.slice none 0 0)], .box [.v (.int .i64 y), .sl 6], .row true (.trips t6_1s)]) (fun ((t7_1, t6_1s_1) : Bool × (List (Int × Int × Int))) => Exit.exit 0) (fun ((t7_1, t6_1s_1) : Bool × (List (Int × Int × Int))) => [(2, .pp 1 0), (3, .pp 3 0), (4, .pp 4 0), (6, .pp 5 0), (7, .v (.bool t7_1))]) (fun ((t7_1, t6_1s_1) : Bool × (List (Int × Int × Int))) => [.row false (.trips a0_1), .box [.v (.int .i64 y), .sl 2], .row true (.trips y_1), .rbox [.v (.int .i64 a1_0), .v (.int .i64 a1_1), .v (.int .i64 a1_2)], .box [.v (.int .i64 0), .v (.slice none 0 0)], .box [.v (.int .i64 y), .sl 6], .row true (.trips t6_1s_1)]) ?_ ?_ ?_ ?_
        · rintro ⟨t7_1, t6_1s_1⟩ hy <;> cases hy
        · clear h hx
          refine Red.trans (Red.nilCell (o := 5) (i := 1) (.trips []) rfl rfl rfl) ?_
          exact Red.selA [0, 1, 4, 2, 3, 5, 6] Red.auto
        · clear h hx
          rintro ⟨t7, t8, t6_1s⟩ r h
          unfold spec_AddEdge_b0 at h
          try dsimp only at h
          try dsimp only
          refine awp_seq fun K84 hK84 => ?_
          refine awp_reg ftCOk [(2, .pp 1 0), (3, .pp 3 0), (4, .pp 4 0), (6, .pp 5 0), (7, .v (.bool t7)), (8, .v (.int .i64 t8)), (23, .v (.bool (decide (t8 < (y_1.length : Int)))))] [.row false (.trips a0_1), .box [.v (.int .i64 y), .sl 2], .row true (.trips y_1), .rbox [.v (.int .i64 a1_0), .v (.int .i64 a1_1), .v (.int .i64 a1_2)], .box [.v (.int .i64 0), .v (.slice none 0 0)], .box [.v (.int .i64 y), .sl 6], .row true (.trips t6_1s)] ?_
          refine awp_cond (t := 23) rfl (fun hc85 => ?_) (fun hc85 => ?_)
          · replace h := bite_t h hc85
            refine awp_skip ?_
            (try simp only [Thn, InBlk, ↓reduceIte, Nat.reduceEqDiff])
            refine hK84 _ _ ?_
            clear hK84
            refine awp_join h (fun ((t7_2, t6_1s_2) : Bool × (List (Int × Int × Int))) => [(2, .pp 1 0), (3, .pp 3 0), (4, .pp 4 0), (6, .pp 5 0), (7, .v (.bool t7_2)), (8, .v (.int .i64 t8))]) (fun ((t7_2, t6_1s_2) : Bool × (List (Int × Int × Int))) => [.row false (.trips a0_1), .box [.v (.int .i64 y), .sl 2], .row true (.trips y_1), .rbox [.v (.int .i64 a1_0), .v (.int .i64 a1_1), .v (.int .i64 a1_2)], .box [.v (.int .i64 0), .v (.slice none 0 0)], .box [.v (.int .i64 y), .sl 6], .row true (.trips t6_1s_2)]) ?_ ?_
            · clear h
              intro k h
              try dsimp only at h
              refine awp_block ?_
              replace h := chk_some h
              obtain ⟨hp0, h⟩ := h
              refine awp_reg ftCOk [(2, .pp 1 0), (3, .pp 3 0), (4, .pp 4 0), (6, .pp 5 0), (7, .v (.bool t7)), (8, .v (.int .i64 t8)), (9, .pp 7 0)] [.row false (.trips a0_1), .box [.v (.int .i64 y), .sl 2], .row true (.trips y_1), .rbox [.v (.int .i64 a1_0), .v (.int .i64 a1_1), .v (.int .i64 a1_2)], .box [.v (.int .i64 0), .v (.slice none 0 0)], .box [.v (.int .i64 y), .sl 6], .row true (.trips t6_1s), .box [.v (.int .i64 ((y_1.getD t8.toNat (0, 0, 0)).1)), .v (.int .i64 ((y_1.getD t8.toNat (0, 0, 0)).2.1)), .v (.int .i64 ((y_1.getD t8.toNat (0, 0, 0)).2.2))]] ?_
              clear hp0
              refine awp_join h (fun ((t7_3, t6_1s_3) : Bool × (List (Int × Int × Int))) => [(2, .pp 1 0), (3, .pp 3 0), (4, .pp 4 0), (6, .pp 5 0), (7, .v (.bool t7_3)), (8, .v (.int .i64 t8)), (9, .pp 7 0)]) (fun ((t7_3, t6_1s_3) : Bool × (List (Int × Int × Int))) => [.row false (.trips a0_1), .box [.v (.int .i64 y), .sl 2], .row true (.trips y_1), .rbox [.v (.int .i64 a1_0), .v (.int .i64 a1_1), .v (.int .i64 a1_2)], .box [.v (.int .i64 0), .v (.slice none 0 0)], .box [.v (.int .i64 y), .sl 6], .row true (.trips t6_1s_3), .box [.v (.int .i64 ((y_1.getD t8.toNat (0, 0, 0)).1)), .v (.int .i64 ((y_1.getD t8.toNat (0, 0, 0)).2.1)), .v (.int .i64 ((y_1.getD t8.toNat (0, 0, 0)).2.2))]]) ?_ ?_
              · clear h
                intro k_1 h
                try dsimp only at h
                refine awp_reg ftCOk [(2, .pp 1 0), (3, .pp 3 0), (4, .pp 4 0), (6, .pp 5 0), (7, .v (.bool t7)), (8, .v (.int .i64 t8)), (9, .pp 7 0), (38, .v (.bool ((!t7) && (!(decide ((y_1.getD t8.toNat (0, 0, 0)).1 < a1_0 ∨ (y_1.getD t8.toNat (0, 0, 0)).1 = a1_0 ∧ (y_1.getD t8.toNat (0, 0, 0)).2.1 < a1_1))))))] [.row false (.trips a0_1), .box [.v (.int .i64 y), .sl 2], .row true (.trips y_1), .rbox [.v (.int .i64 a1_0), .v (.int .i64 a1_1), .v (.int .i64 a1_2)], .box [.v (.int .i64 0), .v (.slice none 0 0)], .box [.v (.int .i64 y), .sl 6], .row true (.trips t6_1s), .box [.v (.int .i64 ((y_1.getD t8.toNat (0, 0, 0)).1)), .v (.int .i64 ((y_1.getD t8.toNat (0, 0, 0)).2.1)), .v (.int .i64 ((y_1.getD t8.toNat (0, 0, 0)).2.2))]] ?_
                refine awp_cond (t := 38) rfl (fun hc92 => ?_) (fun hc92 => ?_)
                · replace h := bite_t h hc92
                  replace h := chk_some h
                  obtain ⟨hp0, h⟩ := h
                  refine awp_reg ftCOk [(2, .pp 1 0), (3, .pp 3 0), (4, .pp 4 0), (6, .pp 5 0), (8, .v (.int .i64 t8)), (9, .pp 7 0)] [.row false (.trips a0_1), .box [.v (.int .i64 y), .sl 2], .row true (.trips y_1), .rbox [.v (.int .i64 a1_0), .v (.int .i64 a1_1), .v (.int .i64 a1_2)], .box [.v (.int .i64 0), .v (.slice none 0 0)], .box [.v (.int .i64 y), .sl 6], .row true (.trips (t6_1s ++ [(a1_0, a1_1, a1_2)])), .box [.v (.int .i64 ((y_1.getD t8.toNat (0, 0, 0)).1)), .v (.int .i64 ((y_1.getD t8.toNat (0, 0, 0)).2.1)), .v (.int .i64 ((y_1.getD t8.toNat (0, 0, 0)).2.2))], .row true (.trips [(a1_0, a1_1, a1_2)])] ?_
                  clear hp0
                  refine awp_reg ftCOk [(2, .pp 1 0), (3, .pp 3 0), (4, .pp 4 0), (6, .pp 5 0), (7, .v (.bool true)), (8, .v (.int .i64 t8)), (9, .pp 7 0)] [.row false (.trips a0_1), .box [.v (.int .i64 y), .sl 2], .row true (.trips y_1), .rbox [.v (.int .i64 a1_0), .v (.int .i64 a1_1), .v (.int .i64 a1_2)], .box [.v (.int .i64 0), .v (.slice none 0 0)], .box [.v (.int .i64 y), .sl 6], .row true (.trips (t6_1s ++ [(a1_0, a1_1, a1_2)])), .box [.v (.int .i64 ((y_1.getD t8.toNat (0, 0, 0)).1)), .v (.int .i64 ((y_1.getD t8.toNat (0, 0, 0)).2.1)), .v (.int .i64 ((y_1.getD t8.toNat (0, 0, 0)).2.2))], .row true (.trips [(a1_0, a1_1, a1_2)])] ?_
                  refine awp_reg ftCOk [(2, .pp 1 0), (3, .pp 3 0), (4, .pp 4 0), (6, .pp 5 0), (7, .v (.bool true)), (8, .v (.int .i64 t8)), (9, .pp 7 0), (56, .v (.bool (((y_1.getD t8.toNat (0, 0, 0)).1 == a1_0) && ((y_1.getD t8.toNat (0, 0, 0)).2.1 == a1_1))))] [.row false (.trips a0_1), .box [.v (.int .i64 y), .sl 2], .row true (.trips y_1), .rbox [.v (.int .i64 a1_0), .v (.int .i64 a1_1), .v (.int .i64 a1_2)], .box [.v (.int .i64 0), .v (.slice none 0 0)], .box [.v (.int .i64 y), .sl 6], .row true (.trips (t6_1s ++ [(a1_0, a1_1, a1_2)])), .box [.v (.int .i64 ((y_1.getD t8.toNat (0, 0, 0)).1)), .v (.int .i64 ((y_1.getD t8.toNat (0, 0, 0)).2.1)), .v (.int .i64 ((y_1.getD t8.toNat (0, 0, 0)).2.2))], .row true (.trips [(a1_0, a1_1, a1_2)])] ?_
                  refine awp_cond (t := 56) rfl (fun hc93 => ?_) (fun hc93 => ?_)
                  · replace h := bite_t h hc93
                    refine awp_exit ?_
                    (try simp only [Thn, InBlk, ↓reduceIte, Nat.reduceEqDiff])
                    (try simp only [Thn, InBlk, ↓reduceIte, Nat.reduceEqDiff])
                    (try simp only [Thn, InBlk, ↓reduceIte, Nat.reduceEqDiff])
                    refine ⟨_, h, ?_⟩
                    exact Red.selA [0, 1, 2, 3, 4, 5, 6] Red.auto
                  · replace h := bite_f h hc93
                    refine awp_skip ?_
                    (try simp only [Thn, InBlk, ↓reduceIte, Nat.reduceEqDiff])
                    refine ⟨_, h, ?_⟩
                    exact Red.selA [0, 1, 2, 3, 4, 5, 6, 7] Red.auto
                · replace h := bite_f h hc92
                  refine awp_skip ?_
                  (try simp only [Thn, InBlk, ↓reduceIte, Nat.reduceEqDiff])
                  refine ⟨_, h, ?_⟩
                  exact Red.auto
              · clear h
                rintro ⟨t7_3, t6_1s_3⟩ h
                try dsimp only at h
                try dsimp only
                replace h := chk_some h
                obtain ⟨hp0, h⟩ := h
                refine awp_regE ftCOk [(2, .pp 1 0), (3, .pp 3 0), (4, .pp 4 0), (6, .pp 5 0), (7, .v (.bool t7_3)), (8, .v (.int .i64 t8))] [.row false (.trips a0_1), .box [.v (.int .i64 y), .sl 2], .row true (.trips y_1), .rbox [.v (.int .i64 a1_0), .v (.int .i64 a1_1), .v (.int .i64 a1_2)], .box [.v (.int .i64 0), .v (.slice none 0 0)], .box [.v (.int .i64 y), .sl 6], .row true (.trips (t6_1s_3 ++ [((y_1.getD t8.toNat (0, 0, 0)).1, (y_1.getD t8.toNat (0, 0, 0)).2.1, (y_1.getD t8.toNat (0, 0, 0)).2.2)])), .box [.v (.int .i64 ((y_1.getD t8.toNat (0, 0, 0)).1)), .v (.int .i64 ((y_1.getD t8.toNat (0, 0, 0)).2.1)), .v (.int .i64 ((y_1.getD t8.toNat (0, 0, 0)).2.2))], .row true (.trips [((y_1.getD t8.toNat (0, 0, 0)).1, (y_1.getD t8.toNat (0, 0, 0)).2.1, (y_1.getD t8.toNat (0, 0, 0)).2.2)])] ?_
                clear hp0
                (try simp only [Thn, InBlk, ↓reduceIte, Nat.reduceEqDiff])
                (try simp only [Thn, InBlk, ↓reduceIte, Nat.reduceEqDiff])
                refine ⟨_, h, ?_⟩
                exact Red.selA [0, 1, 2, 3, 4, 5, 6] Red.auto
            · clear h
              rintro ⟨t7_2, t6_1s_2⟩ h
              try dsimp only at h
              try dsimp only
              replace h := chk_some h
              obtain ⟨hp0, h⟩ := h
              refine awp_regE ftCOk [(2, .pp 1 0), (3, .pp 3 0), (4, .pp 4 0), (6, .pp 5 0), (7, .v (.bool t7_2)), (8, .v (.int .i64 (t8 + 1)))] [.row false (.trips a0_1), .box [.v (.int .i64 y), .sl 2], .row true (.trips y_1), .rbox [.v (.int .i64 a1_0), .v (.int .i64 a1_1), .v (.int .i64 a1_2)], .box [.v (.int .i64 0), .v (.slice none 0 0)], .box [.v (.int .i64 y), .sl 6], .row true (.trips t6_1s_2)] ?_
              clear hp0
              obtain rfl := Option.some.inj h
              refine LoopQ.next ?_
              exact Red.auto
          · replace h := bite_f h hc85
            refine awp_exit ?_
            (try simp only [Thn, InBlk, ↓reduceIte, Nat.reduceEqDiff])
            obtain rfl := Option.some.inj h
            refine LoopQ.out rfl ?_
            exact Red.auto
        · clear hx
          rcases x94 with ⟨t7_1, t6_1s_1⟩
          · try dsimp only [Sum.elim_inl, Sum.elim_inr] at h
            try dsimp only [Sum.elim_inl, Sum.elim_inr]
            (try simp only [Thn, InBlk, ↓reduceIte, Nat.reduceEqDiff])
            (try simp only [Thn, InBlk, ↓reduceIte, Nat.reduceEqDiff])
            (try simp only [Thn, InBlk, ↓reduceIte, Nat.reduceEqDiff])
            refine hK49 _ _ ?_
            clear hK49
            refine awp_join h (fun (t6_1s_4 : List (Int × Int × Int)) => [(2, .pp 1 0), (4, .pp 3 0), (6, .pp 4 0)]) (fun (t6_1s_4 : List (Int × Int × Int)) => [.row false (.trips a0_1), .box [.v (.int .i64 y), .sl 2], .row true (.trips y_1), .box [.v (.int .i64 0), .v (.slice none 0 0)], .box [.v (.int .i64 y), .sl 5], .row true (.trips t6_1s_4)]) ?_ ?_
            · clear h
              intro k_2 h
              try dsimp only at h
              refine awp_reg ftCOk [(2, .pp 1 0), (3, .pp 3 0), (4, .pp 4 0), (6, .pp 5 0), (64, .v (.bool (!t7_1)))] [.row false (.trips a0_1), .box [.v (.int .i64 y), .sl 2], .row true (.trips y_1), .rbox [.v (.int .i64 a1_0), .v (.int .i64 a1_1), .v (.int .i64 a1_2)], .box [.v (.int .i64 0), .v (.slice none 0 0)], .box [.v (.int .i64 y), .sl 6], .row true (.trips t6_1s_1)] ?_
              refine awp_cond (t := 64) rfl (fun hc96 => ?_) (fun hc96 => ?_)
              · replace h := bite_t h hc96
                replace h := chk_some h
                obtain ⟨hp0, h⟩ := h
                refine awp_regE ftCOk [(2, .pp 1 0), (4, .pp 4 0), (6, .pp 5 0)] [.row false (.trips a0_1), .box [.v (.int .i64 y), .sl 2], .row true (.trips y_1), .rbox [.v (.int .i64 a1_0), .v (.int .i64 a1_1), .v (.int .i64 a1_2)], .box [.v (.int .i64 0), .v (.slice none 0 0)], .box [.v (.int .i64 y), .sl 6], .row true (.trips (t6_1s_1 ++ [(a1_0, a1_1, a1_2)])), .row true (.trips [(a1_0, a1_1, a1_2)])] ?_
                clear hp0
                (try simp only [Thn, InBlk, ↓reduceIte, Nat.reduceEqDiff])
                refine ⟨_, h, ?_⟩
                exact Red.selA [0, 1, 2, 4, 5, 6] Red.auto
              · replace h := bite_f h hc96
                refine awp_skip ?_
                (try simp only [Thn, InBlk, ↓reduceIte, Nat.reduceEqDiff])
                refine ⟨_, h, ?_⟩
                exact Red.selA [0, 1, 2, 4, 5, 6] Red.auto
            · clear h
              rintro t6_1s_4 h
              try dsimp only at h
              try dsimp only
              refine awp_seq fun K98 hK98 => ?_
              replace h := bind_some h
              obtain ⟨y_3, hr0, h⟩ := h
              try dsimp only at h
              refine awp_to [(2, .pp 1 0), (4, .pp 3 0), (6, .pp 4 0), (73, .v (.bool (!y_3)))] [.row false (.trips a0_1), .box [.v (.int .i64 y), .sl 2], .row true (.trips y_1), .box [.v (.int .i64 0), .v (.slice none 0 0)], .box [.v (.int .i64 y), .sl 5], .row true (.trips t6_1s_4)] ?_ ?_
              · clear h
                intro K hK
                refine awp_region ftCOk ?_
                simp (maxSteps := 4000000) only [go_sem, Nat.reduceBEq, Nat.reduceLT, Nat.reduceAdd, Nat.reduceLeDiff, Nat.reduceSub, Nat.reduceEqDiff, Int.reduceToNat, reduceCtorEq, ↓reduceIte]
                repeat' (first | refine And.intro ?_ ?_ | intro hg)
                all_goals (try simp (disch := omega) only [wrap_fits])
                all_goals first
                  | (refine hK _ _ ?_; exact Red.auto)
                  | exact trivial
                  | assumption
                  | omega
                  | exact wrap_fits (by omega) (by omega)
                  | (refine wpA_callA (k_spec_GraphValid y t6_1s_4 (h := hr0)) [5] [] ?_
                     rintro x Hc' ⟨rfl, rfl⟩ hlen
                     refine vcOps_sound ftCOk ?_
                     simp (maxSteps := 4000000) only [go_sem, Nat.reduceBEq, Nat.reduceLT, Nat.reduceAdd, Nat.reduceLeDiff, Nat.reduceSub, Nat.reduceEqDiff, Int.reduceToNat, reduceCtorEq, ↓reduceIte]
                     repeat' (first | refine And.intro ?_ ?_ | intro hg)
                     all_goals (try simp (disch := omega) only [wrap_fits])
                     all_goals first
                       | (refine hK _ _ ?_; exact Red.auto)
                       | exact trivial
                       | assumption
                       | omega
                       | exact wrap_fits (by omega) (by omega)
                       | (simp_all; done)
                       | (simp_all; omega))
                  | (simp_all; done)
                  | (simp_all; omega)
              · clear hr0
                refine awp_cond (t := 73) rfl (fun hc99 => ?_) (fun hc99 => ?_)
                · replace h := bite_t h hc99
                  refine awp_freeze 2 (by rfl) (by rfl) (by first | exact rfl | (simp only [List.map_cons, List.map_nil, List.set_cons_succ, List.set_cons_zero, AObj.unview, reduceCtorEq, ↓reduceIte, Nat.reduceEqDiff]; exact rfl)) ?_
                  replace h := chk_some h
                  obtain ⟨hp0, h⟩ := h
                  refine awp_to [(4, .pp 3 0), (5, .v (.bool false))] [.row false (.trips a0_1), .rbox [.v (.int .i64 y), .sl 2], .row true (.trips y_1), .box [.v (.int .i64 y), .sl 6], .box [.v (.int .i64 y), .sl 5], .row true (.trips t6_1s_4), .row true (.trips ([] ++ y_1))] ?_ ?_
                  · clear h
                    intro K hK
                    refine awp_drawT mixed ftCOk (.free 0 (.free 3 (.free 1 (.free 4 (.one 2 (.one 5 (.one 6 (.one 7 (.one 8 .fin))))))))) (by kernel_rfl) (by simp) ?_
                    simp (maxSteps := 4000000) only [go_sem, Nat.reduceBEq, Nat.reduceLT, Nat.reduceAdd, Nat.reduceLeDiff, Nat.reduceSub, Nat.reduceEqDiff, Int.reduceToNat, reduceCtorEq, ↓reduceIte]
                    repeat' (first | refine And.intro ?_ ?_ | intro hg)
                    all_goals (try simp (disch := omega) only [wrap_fits])
                    all_goals first
                      | (refine hK _ _ ?_; exact Red.auto)
                      | exact trivial
                      | assumption
                      | omega
                      | exact wrap_fits (by omega) (by omega)
                      | (simp (maxSteps := 4000000) only [go_sem, Nat.reduceBEq, Nat.reduceLT, Nat.reduceAdd, Nat.reduceLeDiff, Nat.reduceSub, Nat.reduceEqDiff, Int.reduceToNat, reduceCtorEq, ↓reduceIte]
                         repeat' (first | refine And.intro ?_ ?_ | intro hg)
                         all_goals (try simp (disch := omega) only [wrap_fits])
                         all_goals first | (refine hK _ _ ?_; exact Red.auto) | exact trivial | assumption | omega | exact wrap_fits (by omega) (by omega))
                      | (simp_all; done)
                      | (simp_all; omega)
                  · clear hp0
                    refine awp_ret ?_
                    (try simp only [Thn, InBlk, ↓reduceIte, Nat.reduceEqDiff])
                    obtain rfl := Option.some.inj h
                    refine ⟨by simp, _, [0, 6], (by simp only [go_sem, Nat.reduceBEq, Nat.reduceLT, Nat.reduceAdd, Nat.reduceLeDiff, Nat.reduceSub, Nat.reduceEqDiff, Int.reduceToNat, reduceCtorEq, ↓reduceIte]; exact rfl), ?_, ?_, ?_, ?_⟩
                    · first | exact trivial | exact ⟨trivial, trivial⟩ | exact ⟨trivial, trivial, trivial⟩ | exact ⟨trivial, trivial, trivial, trivial⟩ | (simp only [allP, and_true, true_and]; done) | (simp only [allP, and_true, true_and]; omega)
                    · simp [selOk, pos]
                    · simp
                    · first | exact ⟨rfl, rfl⟩ | (simp only [go_sem, Nat.reduceBEq, Nat.reduceLT, Nat.reduceAdd, Nat.reduceLeDiff, Nat.reduceSub, Nat.reduceEqDiff, Int.reduceToNat, reduceCtorEq, ↓reduceIte]; done) | (simp [go_sem, Nat.reduceBEq, Nat.reduceLT, Nat.reduceAdd, Nat.reduceLeDiff, Nat.reduceSub, Nat.reduceEqDiff, Int.reduceToNat, reduceCtorEq, ↓reduceIte]; done) | (simp only [go_sem, Nat.reduceBEq, Nat.reduceLT, Nat.reduceAdd, Nat.reduceLeDiff, Nat.reduceSub, Nat.reduceEqDiff, Int.reduceToNat, reduceCtorEq, ↓reduceIte]; exact ⟨rfl, rfl⟩) | (simp_all [go_sem, Nat.reduceBEq, Nat.reduceLT, Nat.reduceAdd, Nat.reduceLeDiff, Nat.reduceSub, Nat.reduceEqDiff, Int.reduceToNat, reduceCtorEq, ↓reduceIte]; done)
                · replace h := bite_f h hc99
                  refine awp_skip ?_
                  (try simp only [Thn, InBlk, ↓reduceIte, Nat.reduceEqDiff])
                  refine hK98 _ _ ?_
                  clear hK98
                  refine awp_reg ftCOk [(4, .pp 3 0), (5, .v (.bool true))] [.row false (.trips a0_1), .box [.v (.int .i64 y), .sl 2], .row true (.trips y_1), .box [.v (.int .i64 y), .sl 5], .box [.v (.int .i64 y), .sl 5], .row true (.trips t6_1s_4)] ?_
                  refine awp_ret ?_
                  (try simp only [Thn, InBlk, ↓reduceIte, Nat.reduceEqDiff])
                  obtain rfl := Option.some.inj h
                  refine ⟨by simp, _, [0, 5], (by simp only [go_sem, Nat.reduceBEq, Nat.reduceLT, Nat.reduceAdd, Nat.reduceLeDiff, Nat.reduceSub, Nat.reduceEqDiff, Int.reduceToNat, reduceCtorEq, ↓reduceIte]; exact rfl), ?_, ?_, ?_, ?_⟩
                  · first | exact trivial | exact ⟨trivial, trivial⟩ | exact ⟨trivial, trivial, trivial⟩ | exact ⟨trivial, trivial, trivial, trivial⟩ | (simp only [allP, and_true, true_and]; done) | (simp only [allP, and_true, true_and]; omega)
                  · simp [selOk, pos]
                  · simp
                  · first | exact ⟨rfl, rfl⟩ | (simp only [go_sem, Nat.reduceBEq, Nat.reduceLT, Nat.reduceAdd, Nat.reduceLeDiff, Nat.reduceSub, Nat.reduceEqDiff, Int.reduceToNat, reduceCtorEq, ↓reduceIte]; done) | (simp [go_sem, Nat.reduceBEq, Nat.reduceLT, Nat.reduceAdd, Nat.reduceLeDiff, Nat.reduceSub, Nat.reduceEqDiff, Int.reduceToNat, reduceCtorEq, ↓reduceIte]; done) | (simp only [go_sem, Nat.reduceBEq, Nat.reduceLT, Nat.reduceAdd, Nat.reduceLeDiff, Nat.reduceSub, Nat.reduceEqDiff, Int.reduceToNat, reduceCtorEq, ↓reduceIte]; exact ⟨rfl, rfl⟩) | (simp_all [go_sem, Nat.reduceBEq, Nat.reduceLT, Nat.reduceAdd, Nat.reduceLeDiff, Nat.reduceSub, Nat.reduceEqDiff, Int.reduceToNat, reduceCtorEq, ↓reduceIte]; done)
abbrev lz0_spec_JoinParts : Array Bool := #[false, true, true, false, false, false, true, false, false, false, false, false, false, false, false, false]
abbrev lz1_spec_JoinParts : Array Bool := #[true, true, true, true, true, true, true, true, true, true, true, true, true, true, true, true]
abbrev lz2_spec_JoinParts : Array Bool := #[true, true, true, true, true, true, true, true, true, true, true, true, true, true, false, false]
abbrev lz3_spec_JoinParts : Array Bool := #[true, true, true, true, true, true, true, true, true, true, true, true, true, false, false, false]
abbrev lz4_spec_JoinParts : Array Bool := #[true, true, true, true, true, true, true, true, true, true, false, false, false, true, false, false]
abbrev lz5_spec_JoinParts : Array Bool := #[true, true, true, true, true, true, true, true, true, true, false, false, false, false, false, false]
abbrev lz6_spec_JoinParts : Array Bool := #[true, true, true, true, true, true, true, true, true, false, false, false, false, true, false, false]
abbrev lz7_spec_JoinParts : Array Bool := #[true, true, true, true, true, true, true, true, true, false, false, false, false, false, false, false]
abbrev lz8_spec_JoinParts : Array Bool := #[true, true, true, true, true, true, true, true, false, false, false, false, false, true, false, false]
abbrev lz9_spec_JoinParts : Array Bool := #[true, true, true, true, true, true, true, true, false, false, false, false, false, false, false, false]
abbrev lz10_spec_JoinParts : Array Bool := #[true, true, true, true, true, true, true, false, false, false, false, false, false, true, false, false]
abbrev lz11_spec_JoinParts : Array Bool := #[true, true, true, true, true, true, true, false, false, false, false, false, false, false, false, false]
abbrev lz12_spec_JoinParts : Array Bool := #[true, true, true, true, true, false, true, false, false, false, false, false, false, true, false, false]
abbrev lz13_spec_JoinParts : Array Bool := #[true, true, true, true, true, false, true, false, false, false, false, false, false, false, false, false]
abbrev lz14_spec_JoinParts : Array Bool := #[true, true, true, false, false, false, true, false, false, false, false, false, false, true, false, false]
abbrev lz15_spec_JoinParts : Array Bool := #[true, true, true, false, false, false, true, false, false, false, false, false, false, false, false, false]
abbrev lz16_spec_JoinParts : Array Bool := #[false, true, true, true, true, true, true, true, true, false, false, false, false, true, false, false]
abbrev lz17_spec_JoinParts : Array Bool := #[false, true, true, true, true, true, true, true, true, false, false, false, false, false, false, false]
abbrev lz18_spec_JoinParts : Array Bool := #[false, true, true, true, true, true, true, true, false, false, false, false, false, true, false, false]
abbrev lz19_spec_JoinParts : Array Bool := #[false, true, true, true, true, true, true, true, false, false, false, false, false, false, false, false]
abbrev lz20_spec_JoinParts : Array Bool := #[false, true, true, true, true, true, true, false, false, false, false, false, false, true, false, false]
abbrev lz21_spec_JoinParts : Array Bool := #[false, true, true, true, true, true, true, false, false, false, false, false, false, false, false, false]
abbrev lz22_spec_JoinParts : Array Bool := #[false, true, true, true, true, false, true, false, false, false, false, false, false, true, false, false]
abbrev lz23_spec_JoinParts : Array Bool := #[false, true, true, true, true, false, true, false, false, false, false, false, false, false, false, false]
abbrev lz24_spec_JoinParts : Array Bool := #[false, true, true, false, false, false, true, false, false, false, false, false, false, true, false, false]
theorem k_spec_JoinParts (a0 : List (Int × List (Int × Int × Int))) {r : Int × (List (Int × Int × Int)) × Bool} (h : spec_JoinParts a0 = some r) :
    FnA Try.prog 16 [.sl 0] [.row false (.graphs a0)] [] (fun x H => x = .tup [.agg [.v (.int .i64 r.1), .sl 1], .v (.bool r.2.2)] ∧ H = [.row false (.graphs a0), .row true (.trips r.2.1)]) := by
  unfold spec_JoinParts at h
  refine FnA.of (N := 87) (pin := [0]) (rs := [.cell 2 25, .tmp 3]) Try.func16 rfl en16 rfl rfl (by simp) (by simp; try omega) ?_
  refine awp_reg ftCOk [(0, .sl 0), (2, .pp 1 0)] [.row false (.graphs a0), .box [.v (.int .i64 0), .v (.slice none 0 0)]] ?_
  replace h := bind_some h
  obtain ⟨y, hr0, h⟩ := h
  try dsimp only at h
  refine awp_to [(0, .sl 2), (2, .pp 1 0)] [.row false (.graphs a0), .box [.v (.int .i64 0), .v (.slice none 0 0)], .row true (.graphs y)] ?_ ?_
  · clear h
    intro K hK
    refine awp_region ftCOk ?_
    simp (maxSteps := 4000000) only [go_sem, Nat.reduceBEq, Nat.reduceLT, Nat.reduceAdd, Nat.reduceLeDiff, Nat.reduceSub, Nat.reduceEqDiff, Int.reduceToNat, reduceCtorEq, ↓reduceIte]
    repeat' (first | refine And.intro ?_ ?_ | intro hg)
    all_goals (try simp (disch := omega) only [wrap_fits])
    all_goals first
      | (refine hK _ _ ?_; exact Red.auto)
      | exact trivial
      | assumption
      | omega
      | exact wrap_fits (by omega) (by omega)
      | (refine wpA_callA (k_spec_l1OwnGraphList a0 (h := hr0)) [0] [] ?_
         rintro x Hc' ⟨rfl, rfl⟩ hlen
         refine vcOps_sound ftCOk ?_
         simp (maxSteps := 4000000) only [go_sem, Nat.reduceBEq, Nat.reduceLT, Nat.reduceAdd, Nat.reduceLeDiff, Nat.reduceSub, Nat.reduceEqDiff, Int.reduceToNat, reduceCtorEq, ↓reduceIte]
         repeat' (first | refine And.intro ?_ ?_ | intro hg)
         all_goals (try simp (disch := omega) only [wrap_fits])
         all_goals first
           | (refine hK _ _ ?_; exact Red.auto)
           | exact trivial
           | assumption
           | omega
           | exact wrap_fits (by omega) (by omega)
           | (simp_all; done)
           | (simp_all; omega))
      | (simp_all; done)
      | (simp_all; omega)
  · clear hr0
    refine awp_seq fun K2 hK2 => ?_
    refine awp_reg ftCOk [(0, .sl 2), (2, .pp 1 0), (15, .v (.bool (!(decide (1 ≤ (y.length : Int)) && decide ((y.length : Int) ≤ 6)))))] [.row false (.graphs a0), .box [.v (.int .i64 0), .v (.slice none 0 0)], .row true (.graphs y)] ?_
    refine awp_cond (t := 15) rfl (fun hc3 => ?_) (fun hc3 => ?_)
    · replace h := bite_t h hc3
      refine awp_reg ftCOk [(2, .pp 1 0), (3, .v (.bool false))] [.row false (.graphs a0), .box [.v (.int .i64 0), .v (.slice none 0 0)], .row true (.graphs y)] ?_
      refine awp_red (Red.nilCell (o := 1) (i := 1) (.trips []) rfl rfl rfl) ?_
      refine awp_ret ?_
      (try simp only [Thn, InBlk, ↓reduceIte, Nat.reduceEqDiff])
      obtain rfl := Option.some.inj h
      refine ⟨by simp, _, [0, 3], (by simp only [go_sem, Nat.reduceBEq, Nat.reduceLT, Nat.reduceAdd, Nat.reduceLeDiff, Nat.reduceSub, Nat.reduceEqDiff, Int.reduceToNat, reduceCtorEq, ↓reduceIte]; exact rfl), ?_, ?_, ?_, ?_⟩
      · first | exact trivial | exact ⟨trivial, trivial⟩ | exact ⟨trivial, trivial, trivial⟩ | exact ⟨trivial, trivial, trivial, trivial⟩ | (simp only [allP, and_true, true_and]; done) | (simp only [allP, and_true, true_and]; omega)
      · simp [selOk, pos]
      · simp
      · first | exact ⟨rfl, rfl⟩ | (simp only [go_sem, Nat.reduceBEq, Nat.reduceLT, Nat.reduceAdd, Nat.reduceLeDiff, Nat.reduceSub, Nat.reduceEqDiff, Int.reduceToNat, reduceCtorEq, ↓reduceIte]; done) | (simp [go_sem, Nat.reduceBEq, Nat.reduceLT, Nat.reduceAdd, Nat.reduceLeDiff, Nat.reduceSub, Nat.reduceEqDiff, Int.reduceToNat, reduceCtorEq, ↓reduceIte]; done) | (simp only [go_sem, Nat.reduceBEq, Nat.reduceLT, Nat.reduceAdd, Nat.reduceLeDiff, Nat.reduceSub, Nat.reduceEqDiff, Int.reduceToNat, reduceCtorEq, ↓reduceIte]; exact ⟨rfl, rfl⟩) | (simp_all [go_sem, Nat.reduceBEq, Nat.reduceLT, Nat.reduceAdd, Nat.reduceLeDiff, Nat.reduceSub, Nat.reduceEqDiff, Int.reduceToNat, reduceCtorEq, ↓reduceIte]; done)
    · replace h := bite_f h hc3
      refine awp_skip ?_
      (try simp only [Thn, InBlk, ↓reduceIte, Nat.reduceEqDiff])
      refine hK2 _ _ ?_
      clear hK2
      replace h := chk_some h
      obtain ⟨hp0, h⟩ := h
      refine awp_reg ftCOk [(0, .sl 2), (2, .pp 1 0), (4, .pp 3 0)] [.row false (.graphs a0), .box [.v (.int .i64 0), .v (.slice none 0 0)], .row true (.graphs y), .box [.v (.int .i64 ((y.getD 0 (0, [])).1)), .v (.slice none 0 0)]] ?_
      clear hp0
      refine awp_reg ftCOk [(0, .sl 2), (2, .pp 1 0), (4, .pp 3 0), (5, .v (.int .i64 0))] [.row false (.graphs a0), .box [.v (.int .i64 0), .v (.slice none 0 0)], .row true (.graphs y), .box [.v (.int .i64 ((y.getD 0 (0, [])).1)), .v (.slice none 0 0)]] ?_
      refine awp_seq fun K441 hK441 => ?_
      refine awp_reg ftCOk [(0, .sl 2), (2, .pp 1 0), (4, .pp 3 0), (5, .v (.int .i64 0)), (6, .v (.int .i64 0))] [.row false (.graphs a0), .box [.v (.int .i64 0), .v (.slice none 0 0)], .row true (.graphs y), .box [.v (.int .i64 ((y.getD 0 (0, [])).1)), .v (.slice none 0 0)]] ?_
      refine awp_block ?_
      replace h := bind_some h
      obtain ⟨x878, hx, h⟩ := h
      refine awp_loopL hx (fun ((t5, t6, t4_0, t4_1s) : Int × Int × Int × (List (Int × Int × Int))) => [(0, .sl 1), (2, .pp 2 0), (4, .pp 4 0), (5, .v (.int .i64 t5)), (6, .v (.int .i64 t6))]) (fun ((t5, t6, t4_0, t4_1s) : Int × Int × Int × (List (Int × Int × Int))) => [.row false (.graphs a0), .row true (.graphs y), .box [.v (.int .i64 0), .sl 3], .row true (.trips []), .box [.v (.int .i64 t4_0), .sl 5], .row true (.trips t4_1s)]) (Sum.elim (fun ((t5_1, t4_0_1, t4_1s_1) : Int × Int × (List (Int × Int × Int))) => Exit.exit 0) (fun (_ : Unit) => Exit.ret)) (Sum.elim (fun ((t5_1, t4_0_1, t4_1s_1) : Int × Int × (List (Int × Int × Int))) => [(2, .pp 1 0), (4, .pp 3 0), (5, .v (.int .i64 t5_1))]) (fun (_ : Unit) => [(2, .pp 1 0), (3, .v (.bool false))])) (Sum.elim (fun ((t5_1, t4_0_1, t4_1s_1) : Int × Int × (List (Int × Int × Int))) => [.row false (.graphs a0), .box [.v (.int .i64 0), .sl 2], .row true (.trips []), .box [.v (.int .i64 t4_0_1), .sl 4], .row true (.trips t4_1s_1)]) (fun (_ : Unit) => [.row false (.graphs a0), .box [.v (.int .i64 0), .sl 2], .row true (.trips [])])) ?_ ?_ ?_ ?_
      · rintro (⟨t5_1, t4_0_1, t4_1s_1⟩ | ⟨⟩) hy <;> cases hy
      · clear h hx
        refine Red.trans (Red.nilCell (o := 1) (i := 1) (.trips []) rfl rfl rfl) ?_
        refine Red.trans (Red.nilCell (o := 3) (i := 1) (.trips []) rfl rfl rfl) ?_
        exact Red.selA [0, 2, 1, 4, 3, 5] Red.auto
      · clear h hx
        rintro ⟨t5, t6, t4_0, t4_1s⟩ r h
        unfold spec_JoinParts_b1 at h
        try dsimp only at h
        try dsimp only
        refine awp_seq fun K777 hK777 => ?_
        refine awp_reg ftCOk [(0, .sl 1), (2, .pp 2 0), (4, .pp 4 0), (5, .v (.int .i64 t5)), (6, .v (.int .i64 t6)), (25, .v (.bool (decide (t6 < (y.length : Int)))))] [.row false (.graphs a0), .row true (.graphs y), .box [.v (.int .i64 0), .sl 3], .row true (.trips []), .box [.v (.int .i64 t4_0), .sl 5], .row true (.trips t4_1s)] ?_
        refine awp_cond (t := 25) rfl (fun hc778 => ?_) (fun hc778 => ?_)
        · replace h := bite_t h hc778
          refine awp_skip ?_
          (try simp only [Thn, InBlk, ↓reduceIte, Nat.reduceEqDiff])
          refine hK777 _ _ ?_
          clear hK777
          refine awp_seq fun K828 hK828 => ?_
          refine awp_block ?_
          refine awp_seq fun K831 hK831 => ?_
          replace h := chk_some h
          obtain ⟨hpt877, h⟩ := h
          refine awp_take 1 t6.toNat 1 (by rfl) (by exact hpt877) (by rfl) (by exact rfl) ?_
          clear hpt877
          replace h := chk_some h
          obtain ⟨hp0, h⟩ := h
          replace h := bind_some h
          obtain ⟨y_1, hr1, h⟩ := h
          try dsimp only at h
          replace h := chk_some h
          obtain ⟨hp2, h⟩ := h
          refine awp_to [(0, .sl 1), (2, .pp 2 0), (4, .pp 4 0), (5, .v (.int .i64 t5)), (6, .v (.int .i64 t6)), (43, .v (.bool ((!y_1) || ((y.getD t6.toNat (0, [])).1 != t4_0))))] [.row false (.graphs a0), .tak true (.graphs y) t6.toNat 1 (some 6), .box [.v (.int .i64 0), .sl 3], .row true (.trips []), .box [.v (.int .i64 t4_0), .sl 5], .row true (.trips t4_1s), .row true (.trips ((y.getD t6.toNat (0, [])).2))] ?_ ?_
          · clear h
            intro K hK
            refine awp_drawT mixed ftCOk (.free 0 (.one 1 (.one 2 (.one 3 (.one 4 (.one 5 (.one 6 (.free 7 (.free 8 (.free 12 (.two 9 13 (.free 10 (.two 11 13 (.one 13 (.one 14 (.one 15 .fin))) (.one 11 (.one 14 (.one 15 .fin))))) (.one 9 (.one 10 (.one 11 (.one 14 (.one 15 .fin)))))))))))))))) (by kernel_rfl) (by simp) ?_
            simp (maxSteps := 4000000) only [go_sem, Nat.reduceBEq, Nat.reduceLT, Nat.reduceAdd, Nat.reduceLeDiff, Nat.reduceSub, Nat.reduceEqDiff, Int.reduceToNat, reduceCtorEq, ↓reduceIte]
            repeat' (first | refine And.intro ?_ ?_ | intro hg)
            all_goals (try simp (disch := omega) only [wrap_fits])
            all_goals first
              | (refine hK _ _ ?_; exact Red.auto)
              | exact trivial
              | assumption
              | omega
              | exact wrap_fits (by omega) (by omega)
              | (have hq := hp2 (by first | assumption | (simp only [*, Bool.false_or, Bool.true_or, Bool.or_false, Bool.or_true, Bool.false_and, Bool.true_and, Bool.and_false, Bool.and_true, Bool.not_true, Bool.not_false, beq_self_eq_true]; done) | (simp_all; done)); omega)
              | (refine OpK_callA (k_spec_GraphValid ((y.getD t6.toNat (0, [])).1) ((y.getD t6.toNat (0, [])).2) (h := hr1)) [6] [] ?_
                 rintro x Hc' ⟨rfl, rfl⟩ hlen
                 simp (maxSteps := 4000000) only [go_sem, Nat.reduceBEq, Nat.reduceLT, Nat.reduceAdd, Nat.reduceLeDiff, Nat.reduceSub, Nat.reduceEqDiff, Int.reduceToNat, reduceCtorEq, ↓reduceIte]
                 repeat' (first | refine And.intro ?_ ?_ | intro hg)
                 all_goals (try simp (disch := omega) only [wrap_fits])
                 all_goals first
                   | (refine hK _ _ ?_; exact Red.auto)
                   | exact trivial
                   | assumption
                   | omega
                   | exact wrap_fits (by omega) (by omega)
                   | (have hq := hp2 (by first | assumption | (simp only [*, Bool.false_or, Bool.true_or, Bool.or_false, Bool.or_true, Bool.false_and, Bool.true_and, Bool.and_false, Bool.and_true, Bool.not_true, Bool.not_false, beq_self_eq_true]; done) | (simp_all; done)); omega)
                   | (simp (maxSteps := 4000000) only [go_sem, Nat.reduceBEq, Nat.reduceLT, Nat.reduceAdd, Nat.reduceLeDiff, Nat.reduceSub, Nat.reduceEqDiff, Int.reduceToNat, reduceCtorEq, ↓reduceIte]
                      repeat' (first | refine And.intro ?_ ?_ | intro hg)
                      all_goals (try simp (disch := omega) only [wrap_fits])
                      all_goals first | (refine hK _ _ ?_; exact Red.auto) | exact trivial | assumption | omega | exact wrap_fits (by omega) (by omega) | (have hq := hp2 (by first | assumption | (simp only [*, Bool.false_or, Bool.true_or, Bool.or_false, Bool.or_true, Bool.false_and, Bool.true_and, Bool.and_false, Bool.and_true, Bool.not_true, Bool.not_false, beq_self_eq_true]; done) | (simp_all; done)); omega))
                   | (simp_all; done)
                   | (simp_all; omega))
              | (simp_all; done)
              | (simp_all; omega)
          · clear hp0 hr1 hp2
            refine awp_cond (t := 43) rfl (fun hc832 => ?_) (fun hc832 => ?_)
            · replace h := bite_t h hc832
              refine awp_put 1 6 (by rfl) (by rfl) (Cont.setChild_self (by rfl)) (by exact rfl) ?_
              refine awp_reg ftCOk [(2, .pp 2 0), (3, .v (.bool false))] [.row false (.graphs a0), .row true (.graphs y), .box [.v (.int .i64 0), .v (.slice none 0 0)], .row true (.trips []), .box [.v (.int .i64 t4_0), .sl 5], .row true (.trips t4_1s), .view 1 (.trips ((y.getD t6.toNat (0, [])).2))] ?_
              refine awp_ret ?_
              (try simp only [Thn, InBlk, ↓reduceIte, Nat.reduceEqDiff])
              obtain rfl := Option.some.inj h
              refine LoopQ.out rfl ?_
              refine Red.trans (Red.nilCell (o := 2) (i := 1) (.trips []) rfl rfl rfl) ?_
              exact Red.selA [0, 2, 7] Red.auto
            · replace h := bite_f h hc832
              refine awp_skip ?_
              (try simp only [Thn, InBlk, ↓reduceIte, Nat.reduceEqDiff])
              refine hK831 _ _ ?_
              clear hK831
              refine awp_put 1 6 (by rfl) (by rfl) (Cont.setChild_self (by rfl)) (by exact rfl) ?_
              replace h := chk_some h
              obtain ⟨hpt876, h⟩ := h
              refine awp_take 1 t6.toNat 1 (by rfl) (by exact hpt876) (by rfl) (by exact rfl) ?_
              clear hpt876
              replace h := chk_some h
              obtain ⟨hp0, h⟩ := h
              replace h := chk_some h
              obtain ⟨hp1, h⟩ := h
              refine awp_reg ftCOk [(0, .sl 1), (2, .pp 2 0), (4, .pp 4 0), (5, .v (.int .i64 (t5 + (((y.getD t6.toNat (0, [])).2).length : Int)))), (6, .v (.int .i64 t6))] [.row false (.graphs a0), .tak true (.graphs y) t6.toNat 1 (some 7), .box [.v (.int .i64 0), .sl 3], .row true (.trips []), .box [.v (.int .i64 t4_0), .sl 5], .row true (.trips t4_1s), .dead, .row true (.trips ((y.getD t6.toNat (0, [])).2))] ?_
              clear hp0 hp1
              refine awp_put 1 7 (by rfl) (by rfl) (Cont.setChild_self (by rfl)) (by exact rfl) ?_
              refine awp_reg ftCOk [(0, .sl 1), (2, .pp 2 0), (4, .pp 4 0), (5, .v (.int .i64 (t5 + (((y.getD t6.toNat (0, [])).2).length : Int)))), (6, .v (.int .i64 t6)), (7, .v (.int .i64 0))] [.row false (.graphs a0), .row true (.graphs y), .box [.v (.int .i64 0), .sl 3], .row true (.trips []), .box [.v (.int .i64 t4_0), .sl 5], .row true (.trips t4_1s), .dead, .view 1 (.trips ((y.getD t6.toNat (0, [])).2))] ?_
              refine awp_block ?_
              replace h := bind_some h
              obtain ⟨x875, hx, h⟩ := h
              refine awp_loopL hx (fun ((t7, t4_0_2, t4_1s_2) : Int × Int × (List (Int × Int × Int))) => [(0, .sl 1), (2, .pp 2 0), (4, .pp 4 0), (5, .v (.int .i64 (t5 + (((y.getD t6.toNat (0, [])).2).length : Int)))), (6, .v (.int .i64 t6)), (7, .v (.int .i64 t7))]) (fun ((t7, t4_0_2, t4_1s_2) : Int × Int × (List (Int × Int × Int))) => [.row false (.graphs a0), .row true (.graphs y), .box [.v (.int .i64 0), .sl 3], .row true (.trips []), .box [.v (.int .i64 t4_0_2), .sl 5], .row true (.trips t4_1s_2)]) (Sum.elim (fun ((t4_0_3, t4_1s_3) : Int × (List (Int × Int × Int))) => Exit.exit 2) (fun (_ : Unit) => Exit.ret)) (Sum.elim (fun ((t4_0_3, t4_1s_3) : Int × (List (Int × Int × Int))) => [(0, .sl 1), (2, .pp 2 0), (4, .pp 4 0), (5, .v (.int .i64 (t5 + (((y.getD t6.toNat (0, [])).2).length : Int)))), (6, .v (.int .i64 t6))]) (fun (_ : Unit) => [(2, .pp 1 0), (3, .v (.bool false))])) (Sum.elim (fun ((t4_0_3, t4_1s_3) : Int × (List (Int × Int × Int))) => [.row false (.graphs a0), .row true (.graphs y), .box [.v (.int .i64 0), .sl 3], .row true (.trips []), .box [.v (.int .i64 t4_0_3), .sl 5], .row true (.trips t4_1s_3)]) (fun (_ : Unit) => [.row false (.graphs a0), .box [.v (.int .i64 0), .sl 2], .row true (.trips [])])) ?_ ?_ ?_ ?_
              · rintro (⟨t4_0_3, t4_1s_3⟩ | ⟨⟩) hy <;> cases hy
              · clear h hx
                exact Red.selA [0, 1, 2, 3, 4, 5] Red.auto
              · clear h hx
                rintro ⟨t7, t4_0_2, t4_1s_2⟩ r h
                unfold spec_JoinParts_b0 at h
                try dsimp only at h
                try dsimp only
                refine awp_seq fun K863 hK863 => ?_
                replace h := chk_some h
                obtain ⟨hpt874, h⟩ := h
                refine awp_take 1 t6.toNat 1 (by rfl) (by exact hpt874) (by rfl) (by exact rfl) ?_
                clear hpt874
                replace h := chk_some h
                obtain ⟨hp0, h⟩ := h
                refine awp_reg ftCOk [(0, .sl 1), (2, .pp 2 0), (4, .pp 4 0), (5, .v (.int .i64 (t5 + (((y.getD t6.toNat (0, [])).2).length : Int)))), (6, .v (.int .i64 t6)), (7, .v (.int .i64 t7)), (60, .v (.bool (decide (t7 < (((y.getD t6.toNat (0, [])).2).length : Int)))))] [.row false (.graphs a0), .tak true (.graphs y) t6.toNat 1 (some 6), .box [.v (.int .i64 0), .sl 3], .row true (.trips []), .box [.v (.int .i64 t4_0_2), .sl 5], .row true (.trips t4_1s_2), .row true (.trips ((y.getD t6.toNat (0, [])).2))] ?_
                clear hp0
                refine awp_cond (t := 60) rfl (fun hc864 => ?_) (fun hc864 => ?_)
                · replace h := bite_t h hc864
                  refine awp_skip ?_
                  (try simp only [Thn, InBlk, ↓reduceIte, Nat.reduceEqDiff])
                  refine hK863 _ _ ?_
                  clear hK863
                  refine awp_seq fun K869 hK869 => ?_
                  refine awp_block ?_
                  refine awp_put 1 6 (by rfl) (by rfl) (Cont.setChild_self (by rfl)) (by exact rfl) ?_
                  replace h := chk_some h
                  obtain ⟨hpt873, h⟩ := h
                  refine awp_take 1 t6.toNat 1 (by rfl) (by exact hpt873) (by rfl) (by exact rfl) ?_
                  clear hpt873
                  replace h := chk_some h
                  obtain ⟨hp0, h⟩ := h
                  replace h := chk_some h
                  obtain ⟨hp1, h⟩ := h
                  replace h := bind_some h
                  obtain ⟨⟨y_2, y_3, y_4⟩, hr2, h⟩ := h
                  try dsimp only at h
                  refine awp_to [(0, .sl 1), (2, .pp 2 0), (4, .pp 4 0), (5, .v (.int .i64 (t5 + (((y.getD t6.toNat (0, [])).2).length : Int)))), (6, .v (.int .i64 t6)), (7, .v (.int .i64 t7)), (8, .pp 9 0), (9, .v (.bool y_4))] [.row false (.graphs a0), .tak true (.graphs y) t6.toNat 1 (some 7), .box [.v (.int .i64 0), .sl 3], .row true (.trips []), .box [.v (.int .i64 t4_0_2), .sl 5], .row true (.trips t4_1s_2), .dead, .row true (.trips ((y.getD t6.toNat (0, [])).2)), .row true (.trips y_3), .box [.v (.int .i64 y_2), .sl 8]] ?_ ?_
                  · clear h
                    intro K hK
                    refine awp_drawL [0, 1, 2, 3, 4, 5, 6, 7] [1, 2, 6] 13 lz0_spec_JoinParts mixed ftCOk (by kernel_rfl) (by first | rfl | kernel_rfl) (by rfl) (by simp) fun L hL => ?_
                    have n9 : L 0 lz1_spec_JoinParts [(0, .sl 1), (2, .pp 2 0), (4, .pp 4 0), (5, .v (.int .i64 (t5 + (((y.getD t6.toNat (0, [])).2).length : Int)))), (6, .v (.int .i64 t6)), (7, .v (.int .i64 t7)), (8, .pp 9 0), (9, .v (.bool y_4)), (60, .v (.bool (decide (t7 < (((y.getD t6.toNat (0, [])).2).length : Int))))), (63, .tup [.agg [.v (.int .i64 y_2), .sl 8], .v (.bool y_4)]), (64, .agg [.v (.int .i64 t4_0_2), .sl 5]), (65, .sl 1), (66, .v (.int .i64 t6)), (67, .ep 1 t6.toNat 2 0), (68, .ep 1 t6.toNat 2 1), (69, .sl 7), (70, .v (.int .i64 t7)), (71, .ep 7 t7.toNat 3 0), (72, .agg [.v (.int .i64 ((((y.getD t6.toNat (0, [])).2).getD t7.toNat (0, 0, 0)).1)), .v (.int .i64 ((((y.getD t6.toNat (0, [])).2).getD t7.toNat (0, 0, 0)).2.1)), .v (.int .i64 ((((y.getD t6.toNat (0, [])).2).getD t7.toNat (0, 0, 0)).2.2))]), (73, .tup [.agg [.v (.int .i64 y_2), .sl 8], .v (.bool y_4)]), (74, .agg [.v (.int .i64 y_2), .sl 8]), (75, .v (.bool y_4))] [.row false (.graphs a0), .tak true (.graphs y) t6.toNat 1 (some 7), .box [.v (.int .i64 0), .sl 3], .row true (.trips []), .box [.v (.int .i64 t4_0_2), .sl 5], .row true (.trips t4_1s_2), .dead, .row true (.trips ((y.getD t6.toNat (0, [])).2)), .row true (.trips y_3), .box [.v (.int .i64 y_2), .sl 8]] := by
                      exact hL.fin (by kernel_rfl) (hK _ _ Red.auto)
                    have n8 : L 2 lz2_spec_JoinParts [(0, .sl 1), (2, .pp 2 0), (4, .pp 4 0), (5, .v (.int .i64 (t5 + (((y.getD t6.toNat (0, [])).2).length : Int)))), (6, .v (.int .i64 t6)), (7, .v (.int .i64 t7)), (8, .pp 9 0), (60, .v (.bool (decide (t7 < (((y.getD t6.toNat (0, [])).2).length : Int))))), (63, .tup [.agg [.v (.int .i64 y_2), .sl 8], .v (.bool y_4)]), (64, .agg [.v (.int .i64 t4_0_2), .sl 5]), (65, .sl 1), (66, .v (.int .i64 t6)), (67, .ep 1 t6.toNat 2 0), (68, .ep 1 t6.toNat 2 1), (69, .sl 7), (70, .v (.int .i64 t7)), (71, .ep 7 t7.toNat 3 0), (72, .agg [.v (.int .i64 ((((y.getD t6.toNat (0, [])).2).getD t7.toNat (0, 0, 0)).1)), .v (.int .i64 ((((y.getD t6.toNat (0, [])).2).getD t7.toNat (0, 0, 0)).2.1)), .v (.int .i64 ((((y.getD t6.toNat (0, [])).2).getD t7.toNat (0, 0, 0)).2.2))]), (73, .tup [.agg [.v (.int .i64 y_2), .sl 8], .v (.bool y_4)]), (74, .agg [.v (.int .i64 y_2), .sl 8]), (75, .v (.bool y_4))] [.row false (.graphs a0), .tak true (.graphs y) t6.toNat 1 (some 7), .box [.v (.int .i64 0), .sl 3], .row true (.trips []), .box [.v (.int .i64 t4_0_2), .sl 5], .row true (.trips t4_1s_2), .dead, .row true (.trips ((y.getD t6.toNat (0, [])).2)), .row true (.trips y_3), .box [.v (.int .i64 0), .v (.slice none 0 0)]] := by
                      refine hL.step [(14, [15], 0, lz1_spec_JoinParts)] (by kernel_rfl) ⟨?_, trivial⟩
                      · exact hL.edge n9
                    have n7 : L 3 lz3_spec_JoinParts [(0, .sl 1), (2, .pp 2 0), (4, .pp 4 0), (5, .v (.int .i64 (t5 + (((y.getD t6.toNat (0, [])).2).length : Int)))), (6, .v (.int .i64 t6)), (7, .v (.int .i64 t7)), (60, .v (.bool (decide (t7 < (((y.getD t6.toNat (0, [])).2).length : Int))))), (63, .tup [.agg [.v (.int .i64 y_2), .sl 8], .v (.bool y_4)]), (64, .agg [.v (.int .i64 t4_0_2), .sl 5]), (65, .sl 1), (66, .v (.int .i64 t6)), (67, .ep 1 t6.toNat 2 0), (68, .ep 1 t6.toNat 2 1), (69, .sl 7), (70, .v (.int .i64 t7)), (71, .ep 7 t7.toNat 3 0), (72, .agg [.v (.int .i64 ((((y.getD t6.toNat (0, [])).2).getD t7.toNat (0, 0, 0)).1)), .v (.int .i64 ((((y.getD t6.toNat (0, [])).2).getD t7.toNat (0, 0, 0)).2.1)), .v (.int .i64 ((((y.getD t6.toNat (0, [])).2).getD t7.toNat (0, 0, 0)).2.2))]), (73, .tup [.agg [.v (.int .i64 y_2), .sl 8], .v (.bool y_4)]), (74, .agg [.v (.int .i64 y_2), .sl 8]), (75, .v (.bool y_4))] [.row false (.graphs a0), .tak true (.graphs y) t6.toNat 1 (some 7), .box [.v (.int .i64 0), .sl 3], .row true (.trips []), .box [.v (.int .i64 t4_0_2), .sl 5], .row true (.trips t4_1s_2), .dead, .row true (.trips ((y.getD t6.toNat (0, [])).2)), .row true (.trips y_3)] := by
                      refine hL.step [(13, [], 2, lz2_spec_JoinParts)] (by kernel_rfl) ⟨?_, trivial⟩
                      · exact hL.edge n8
                    have n10 : L 5 lz4_spec_JoinParts [(0, .sl 1), (2, .pp 2 0), (4, .pp 4 0), (5, .v (.int .i64 (t5 + (((y.getD t6.toNat (0, [])).2).length : Int)))), (6, .v (.int .i64 t6)), (7, .v (.int .i64 t7)), (8, .pp 9 0), (60, .v (.bool (decide (t7 < (((y.getD t6.toNat (0, [])).2).length : Int))))), (64, .agg [.v (.int .i64 t4_0_2), .sl 5]), (65, .sl 1), (66, .v (.int .i64 t6)), (67, .ep 1 t6.toNat 2 0), (68, .ep 1 t6.toNat 2 1), (69, .sl 7), (70, .v (.int .i64 t7)), (71, .ep 7 t7.toNat 3 0), (72, .agg [.v (.int .i64 ((((y.getD t6.toNat (0, [])).2).getD t7.toNat (0, 0, 0)).1)), .v (.int .i64 ((((y.getD t6.toNat (0, [])).2).getD t7.toNat (0, 0, 0)).2.1)), .v (.int .i64 ((((y.getD t6.toNat (0, [])).2).getD t7.toNat (0, 0, 0)).2.2))]), (73, .tup [.agg [.v (.int .i64 y_2), .sl 8], .v (.bool y_4)])] [.row false (.graphs a0), .tak true (.graphs y) t6.toNat 1 (some 7), .box [.v (.int .i64 0), .sl 3], .row true (.trips []), .box [.v (.int .i64 t4_0_2), .sl 5], .row true (.trips t4_1s_2), .dead, .row true (.trips ((y.getD t6.toNat (0, [])).2)), .row true (.trips y_3), .box [.v (.int .i64 0), .v (.slice none 0 0)]] := by
                      refine hL.step [(10, [11, 12], 2, lz2_spec_JoinParts)] (by kernel_rfl) ⟨?_, trivial⟩
                      · exact hL.edge n8
                    have n6 : L 6 lz5_spec_JoinParts [(0, .sl 1), (2, .pp 2 0), (4, .pp 4 0), (5, .v (.int .i64 (t5 + (((y.getD t6.toNat (0, [])).2).length : Int)))), (6, .v (.int .i64 t6)), (7, .v (.int .i64 t7)), (60, .v (.bool (decide (t7 < (((y.getD t6.toNat (0, [])).2).length : Int))))), (64, .agg [.v (.int .i64 t4_0_2), .sl 5]), (65, .sl 1), (66, .v (.int .i64 t6)), (67, .ep 1 t6.toNat 2 0), (68, .ep 1 t6.toNat 2 1), (69, .sl 7), (70, .v (.int .i64 t7)), (71, .ep 7 t7.toNat 3 0), (72, .agg [.v (.int .i64 ((((y.getD t6.toNat (0, [])).2).getD t7.toNat (0, 0, 0)).1)), .v (.int .i64 ((((y.getD t6.toNat (0, [])).2).getD t7.toNat (0, 0, 0)).2.1)), .v (.int .i64 ((((y.getD t6.toNat (0, [])).2).getD t7.toNat (0, 0, 0)).2.2))]), (73, .tup [.agg [.v (.int .i64 y_2), .sl 8], .v (.bool y_4)])] [.row false (.graphs a0), .tak true (.graphs y) t6.toNat 1 (some 7), .box [.v (.int .i64 0), .sl 3], .row true (.trips []), .box [.v (.int .i64 t4_0_2), .sl 5], .row true (.trips t4_1s_2), .dead, .row true (.trips ((y.getD t6.toNat (0, [])).2)), .row true (.trips y_3)] := by
                      refine hL.step [(10, [11, 12], 3, lz3_spec_JoinParts), (13, [], 5, lz4_spec_JoinParts)] (by kernel_rfl) ⟨?_, ?_, trivial⟩
                      · exact hL.edge n7
                      · exact hL.edge n10
                    have n11 : L 6 lz6_spec_JoinParts [(0, .sl 1), (2, .pp 2 0), (4, .pp 4 0), (5, .v (.int .i64 (t5 + (((y.getD t6.toNat (0, [])).2).length : Int)))), (6, .v (.int .i64 t6)), (7, .v (.int .i64 t7)), (8, .pp 8 0), (60, .v (.bool (decide (t7 < (((y.getD t6.toNat (0, [])).2).length : Int))))), (64, .agg [.v (.int .i64 t4_0_2), .sl 5]), (65, .sl 1), (66, .v (.int .i64 t6)), (67, .ep 1 t6.toNat 2 0), (68, .ep 1 t6.toNat 2 1), (69, .sl 7), (70, .v (.int .i64 t7)), (71, .ep 7 t7.toNat 3 0), (72, .agg [.v (.int .i64 ((((y.getD t6.toNat (0, [])).2).getD t7.toNat (0, 0, 0)).1)), .v (.int .i64 ((((y.getD t6.toNat (0, [])).2).getD t7.toNat (0, 0, 0)).2.1)), .v (.int .i64 ((((y.getD t6.toNat (0, [])).2).getD t7.toNat (0, 0, 0)).2.2))])] [.row false (.graphs a0), .tak true (.graphs y) t6.toNat 1 (some 7), .box [.v (.int .i64 0), .sl 3], .row true (.trips []), .box [.v (.int .i64 t4_0_2), .sl 5], .row true (.trips t4_1s_2), .dead, .row true (.trips ((y.getD t6.toNat (0, [])).2)), .box [.v (.int .i64 0), .v (.slice none 0 0)]] := by
                      refine hL.step [(9, [], 5, lz4_spec_JoinParts)] (by kernel_rfl) ⟨?_, trivial⟩
                      · simp (maxSteps := 4000000) only [go_sem, Nat.reduceBEq, Nat.reduceLT, Nat.reduceAdd, Nat.reduceLeDiff, Nat.reduceSub, Nat.reduceEqDiff, Int.reduceToNat, reduceCtorEq, ↓reduceIte]
                        repeat' (first | refine And.intro ?_ ?_ | intro hg)
                        all_goals (try simp (disch := omega) only [wrap_fits])
                        all_goals first
                          | (refine hL.red ?_ n10; exact Red.selA [0, 1, 2, 3, 4, 5, 6, 7, 9, 8] Red.auto)
                          | exact trivial
                          | assumption
                          | omega
                          | exact wrap_fits (by omega) (by omega)
                          | (refine OpK_callA (k_spec_AddEdge t4_0_2 t4_1s_2 ((((y.getD t6.toNat (0, [])).2).getD t7.toNat (0, 0, 0)).1) ((((y.getD t6.toNat (0, [])).2).getD t7.toNat (0, 0, 0)).2.1) ((((y.getD t6.toNat (0, [])).2).getD t7.toNat (0, 0, 0)).2.2) (h := hr2)) [5] [] ?_
                             rintro x Hc' ⟨rfl, rfl⟩ hlen
                             simp (maxSteps := 4000000) only [go_sem, Nat.reduceBEq, Nat.reduceLT, Nat.reduceAdd, Nat.reduceLeDiff, Nat.reduceSub, Nat.reduceEqDiff, Int.reduceToNat, reduceCtorEq, ↓reduceIte]
                             repeat' (first | refine And.intro ?_ ?_ | intro hg)
                             all_goals (try simp (disch := omega) only [wrap_fits])
                             all_goals first
                               | (refine hL.red ?_ n10; exact Red.selA [0, 1, 2, 3, 4, 5, 6, 7, 9, 8] Red.auto)
                               | exact trivial
                               | assumption
                               | omega
                               | exact wrap_fits (by omega) (by omega)
                               | (simp_all; done)
                               | (simp_all; omega))
                          | (simp (maxSteps := 4000000) only [go_sem, Nat.reduceBEq, Nat.reduceLT, Nat.reduceAdd, Nat.reduceLeDiff, Nat.reduceSub, Nat.reduceEqDiff, Int.reduceToNat, reduceCtorEq, ↓reduceIte]
                             repeat' (first | refine And.intro ?_ ?_ | intro hg)
                             all_goals (try simp (disch := omega) only [wrap_fits])
                             all_goals first | (refine hL.red ?_ n10; exact Red.selA [0, 1, 2, 3, 4, 5, 6, 7, 9, 8] Red.auto) | exact trivial | assumption | omega | exact wrap_fits (by omega) (by omega))
                          | (simp_all; done)
                          | (simp_all; omega)
                    have n5 : L 7 lz7_spec_JoinParts [(0, .sl 1), (2, .pp 2 0), (4, .pp 4 0), (5, .v (.int .i64 (t5 + (((y.getD t6.toNat (0, [])).2).length : Int)))), (6, .v (.int .i64 t6)), (7, .v (.int .i64 t7)), (60, .v (.bool (decide (t7 < (((y.getD t6.toNat (0, [])).2).length : Int))))), (64, .agg [.v (.int .i64 t4_0_2), .sl 5]), (65, .sl 1), (66, .v (.int .i64 t6)), (67, .ep 1 t6.toNat 2 0), (68, .ep 1 t6.toNat 2 1), (69, .sl 7), (70, .v (.int .i64 t7)), (71, .ep 7 t7.toNat 3 0), (72, .agg [.v (.int .i64 ((((y.getD t6.toNat (0, [])).2).getD t7.toNat (0, 0, 0)).1)), .v (.int .i64 ((((y.getD t6.toNat (0, [])).2).getD t7.toNat (0, 0, 0)).2.1)), .v (.int .i64 ((((y.getD t6.toNat (0, [])).2).getD t7.toNat (0, 0, 0)).2.2))])] [.row false (.graphs a0), .tak true (.graphs y) t6.toNat 1 (some 7), .box [.v (.int .i64 0), .sl 3], .row true (.trips []), .box [.v (.int .i64 t4_0_2), .sl 5], .row true (.trips t4_1s_2), .dead, .row true (.trips ((y.getD t6.toNat (0, [])).2))] := by
                      refine hL.step [(9, [], 6, lz5_spec_JoinParts), (13, [], 6, lz6_spec_JoinParts)] (by kernel_rfl) ⟨?_, ?_, trivial⟩
                      · simp (maxSteps := 4000000) only [go_sem, Nat.reduceBEq, Nat.reduceLT, Nat.reduceAdd, Nat.reduceLeDiff, Nat.reduceSub, Nat.reduceEqDiff, Int.reduceToNat, reduceCtorEq, ↓reduceIte]
                        repeat' (first | refine And.intro ?_ ?_ | intro hg)
                        all_goals (try simp (disch := omega) only [wrap_fits])
                        all_goals first
                          | (refine hL.red ?_ n6; exact Red.auto)
                          | exact trivial
                          | assumption
                          | omega
                          | exact wrap_fits (by omega) (by omega)
                          | (refine OpK_callA (k_spec_AddEdge t4_0_2 t4_1s_2 ((((y.getD t6.toNat (0, [])).2).getD t7.toNat (0, 0, 0)).1) ((((y.getD t6.toNat (0, [])).2).getD t7.toNat (0, 0, 0)).2.1) ((((y.getD t6.toNat (0, [])).2).getD t7.toNat (0, 0, 0)).2.2) (h := hr2)) [5] [] ?_
                             rintro x Hc' ⟨rfl, rfl⟩ hlen
                             simp (maxSteps := 4000000) only [go_sem, Nat.reduceBEq, Nat.reduceLT, Nat.reduceAdd, Nat.reduceLeDiff, Nat.reduceSub, Nat.reduceEqDiff, Int.reduceToNat, reduceCtorEq, ↓reduceIte]
                             repeat' (first | refine And.intro ?_ ?_ | intro hg)
                             all_goals (try simp (disch := omega) only [wrap_fits])
                             all_goals first
                               | (refine hL.red ?_ n6; exact Red.auto)
                               | exact trivial
                               | assumption
                               | omega
                               | exact wrap_fits (by omega) (by omega)
                               | (simp_all; done)
                               | (simp_all; omega))
                          | (simp (maxSteps := 4000000) only [go_sem, Nat.reduceBEq, Nat.reduceLT, Nat.reduceAdd, Nat.reduceLeDiff, Nat.reduceSub, Nat.reduceEqDiff, Int.reduceToNat, reduceCtorEq, ↓reduceIte]
                             repeat' (first | refine And.intro ?_ ?_ | intro hg)
                             all_goals (try simp (disch := omega) only [wrap_fits])
                             all_goals first | (refine hL.red ?_ n6; exact Red.auto) | exact trivial | assumption | omega | exact wrap_fits (by omega) (by omega))
                          | (simp_all; done)
                          | (simp_all; omega)
                      · exact hL.edge n11
                    have n12 : L 7 lz8_spec_JoinParts [(0, .sl 1), (2, .pp 2 0), (4, .pp 4 0), (5, .v (.int .i64 (t5 + (((y.getD t6.toNat (0, [])).2).length : Int)))), (6, .v (.int .i64 t6)), (7, .v (.int .i64 t7)), (8, .pp 8 0), (60, .v (.bool (decide (t7 < (((y.getD t6.toNat (0, [])).2).length : Int))))), (64, .agg [.v (.int .i64 t4_0_2), .sl 5]), (65, .sl 1), (66, .v (.int .i64 t6)), (67, .ep 1 t6.toNat 2 0), (68, .ep 1 t6.toNat 2 1), (69, .sl 7), (70, .v (.int .i64 t7)), (71, .ep 7 t7.toNat 3 0)] [.row false (.graphs a0), .tak true (.graphs y) t6.toNat 1 (some 7), .box [.v (.int .i64 0), .sl 3], .row true (.trips []), .box [.v (.int .i64 t4_0_2), .sl 5], .row true (.trips t4_1s_2), .dead, .row true (.trips ((y.getD t6.toNat (0, [])).2)), .box [.v (.int .i64 0), .v (.slice none 0 0)]] := by
                      refine hL.step [(8, [], 6, lz6_spec_JoinParts)] (by kernel_rfl) ⟨?_, trivial⟩
                      · exact hL.edge n11
                    have n4 : L 8 lz9_spec_JoinParts [(0, .sl 1), (2, .pp 2 0), (4, .pp 4 0), (5, .v (.int .i64 (t5 + (((y.getD t6.toNat (0, [])).2).length : Int)))), (6, .v (.int .i64 t6)), (7, .v (.int .i64 t7)), (60, .v (.bool (decide (t7 < (((y.getD t6.toNat (0, [])).2).length : Int))))), (64, .agg [.v (.int .i64 t4_0_2), .sl 5]), (65, .sl 1), (66, .v (.int .i64 t6)), (67, .ep 1 t6.toNat 2 0), (68, .ep 1 t6.toNat 2 1), (69, .sl 7), (70, .v (.int .i64 t7)), (71, .ep 7 t7.toNat 3 0)] [.row false (.graphs a0), .tak true (.graphs y) t6.toNat 1 (some 7), .box [.v (.int .i64 0), .sl 3], .row true (.trips []), .box [.v (.int .i64 t4_0_2), .sl 5], .row true (.trips t4_1s_2), .dead, .row true (.trips ((y.getD t6.toNat (0, [])).2))] := by
                      refine hL.step [(8, [], 7, lz7_spec_JoinParts), (13, [], 7, lz8_spec_JoinParts)] (by kernel_rfl) ⟨?_, ?_, trivial⟩
                      · exact hL.edge n5
                      · exact hL.edge n12
                    have n13 : L 8 lz10_spec_JoinParts [(0, .sl 1), (2, .pp 2 0), (4, .pp 4 0), (5, .v (.int .i64 (t5 + (((y.getD t6.toNat (0, [])).2).length : Int)))), (6, .v (.int .i64 t6)), (7, .v (.int .i64 t7)), (8, .pp 8 0), (60, .v (.bool (decide (t7 < (((y.getD t6.toNat (0, [])).2).length : Int))))), (64, .agg [.v (.int .i64 t4_0_2), .sl 5]), (65, .sl 1), (66, .v (.int .i64 t6)), (67, .ep 1 t6.toNat 2 0), (68, .ep 1 t6.toNat 2 1), (69, .sl 7), (70, .v (.int .i64 t7))] [.row false (.graphs a0), .tak true (.graphs y) t6.toNat 1 (some 7), .box [.v (.int .i64 0), .sl 3], .row true (.trips []), .box [.v (.int .i64 t4_0_2), .sl 5], .row true (.trips t4_1s_2), .dead, .row true (.trips ((y.getD t6.toNat (0, [])).2)), .box [.v (.int .i64 0), .v (.slice none 0 0)]] := by
                      refine hL.step [(7, [], 7, lz8_spec_JoinParts)] (by kernel_rfl) ⟨?_, trivial⟩
                      · exact hL.edge n12
                    have n3 : L 9 lz11_spec_JoinParts [(0, .sl 1), (2, .pp 2 0), (4, .pp 4 0), (5, .v (.int .i64 (t5 + (((y.getD t6.toNat (0, [])).2).length : Int)))), (6, .v (.int .i64 t6)), (7, .v (.int .i64 t7)), (60, .v (.bool (decide (t7 < (((y.getD t6.toNat (0, [])).2).length : Int))))), (64, .agg [.v (.int .i64 t4_0_2), .sl 5]), (65, .sl 1), (66, .v (.int .i64 t6)), (67, .ep 1 t6.toNat 2 0), (68, .ep 1 t6.toNat 2 1), (69, .sl 7), (70, .v (.int .i64 t7))] [.row false (.graphs a0), .tak true (.graphs y) t6.toNat 1 (some 7), .box [.v (.int .i64 0), .sl 3], .row true (.trips []), .box [.v (.int .i64 t4_0_2), .sl 5], .row true (.trips t4_1s_2), .dead, .row true (.trips ((y.getD t6.toNat (0, [])).2))] := by
                      refine hL.step [(7, [], 8, lz9_spec_JoinParts), (13, [], 8, lz10_spec_JoinParts)] (by kernel_rfl) ⟨?_, ?_, trivial⟩
                      · exact hL.edge n4
                      · exact hL.edge n13
                    have n14 : L 9 lz12_spec_JoinParts [(0, .sl 1), (2, .pp 2 0), (4, .pp 4 0), (5, .v (.int .i64 (t5 + (((y.getD t6.toNat (0, [])).2).length : Int)))), (6, .v (.int .i64 t6)), (7, .v (.int .i64 t7)), (8, .pp 8 0), (60, .v (.bool (decide (t7 < (((y.getD t6.toNat (0, [])).2).length : Int))))), (64, .agg [.v (.int .i64 t4_0_2), .sl 5]), (65, .sl 1), (66, .v (.int .i64 t6)), (67, .ep 1 t6.toNat 2 0), (68, .ep 1 t6.toNat 2 1), (70, .v (.int .i64 t7))] [.row false (.graphs a0), .tak true (.graphs y) t6.toNat 1 (some 7), .box [.v (.int .i64 0), .sl 3], .row true (.trips []), .box [.v (.int .i64 t4_0_2), .sl 5], .row true (.trips t4_1s_2), .dead, .row true (.trips ((y.getD t6.toNat (0, [])).2)), .box [.v (.int .i64 0), .v (.slice none 0 0)]] := by
                      refine hL.step [(5, [], 8, lz10_spec_JoinParts)] (by kernel_rfl) ⟨?_, trivial⟩
                      · exact hL.edge n13
                    have n2 : L 10 lz13_spec_JoinParts [(0, .sl 1), (2, .pp 2 0), (4, .pp 4 0), (5, .v (.int .i64 (t5 + (((y.getD t6.toNat (0, [])).2).length : Int)))), (6, .v (.int .i64 t6)), (7, .v (.int .i64 t7)), (60, .v (.bool (decide (t7 < (((y.getD t6.toNat (0, [])).2).length : Int))))), (64, .agg [.v (.int .i64 t4_0_2), .sl 5]), (65, .sl 1), (66, .v (.int .i64 t6)), (67, .ep 1 t6.toNat 2 0), (68, .ep 1 t6.toNat 2 1), (70, .v (.int .i64 t7))] [.row false (.graphs a0), .tak true (.graphs y) t6.toNat 1 (some 7), .box [.v (.int .i64 0), .sl 3], .row true (.trips []), .box [.v (.int .i64 t4_0_2), .sl 5], .row true (.trips t4_1s_2), .dead, .row true (.trips ((y.getD t6.toNat (0, [])).2))] := by
                      refine hL.step [(5, [], 9, lz11_spec_JoinParts), (13, [], 9, lz12_spec_JoinParts)] (by kernel_rfl) ⟨?_, ?_, trivial⟩
                      · exact hL.edge n3
                      · exact hL.edge n14
                    have n15 : L 11 lz14_spec_JoinParts [(0, .sl 1), (2, .pp 2 0), (4, .pp 4 0), (5, .v (.int .i64 (t5 + (((y.getD t6.toNat (0, [])).2).length : Int)))), (6, .v (.int .i64 t6)), (7, .v (.int .i64 t7)), (8, .pp 8 0), (60, .v (.bool (decide (t7 < (((y.getD t6.toNat (0, [])).2).length : Int))))), (64, .agg [.v (.int .i64 t4_0_2), .sl 5]), (65, .sl 1), (66, .v (.int .i64 t6)), (70, .v (.int .i64 t7))] [.row false (.graphs a0), .tak true (.graphs y) t6.toNat 1 (some 7), .box [.v (.int .i64 0), .sl 3], .row true (.trips []), .box [.v (.int .i64 t4_0_2), .sl 5], .row true (.trips t4_1s_2), .dead, .row true (.trips ((y.getD t6.toNat (0, [])).2)), .box [.v (.int .i64 0), .v (.slice none 0 0)]] := by
                      refine hL.step [(3, [4], 9, lz12_spec_JoinParts)] (by kernel_rfl) ⟨?_, trivial⟩
                      · exact hL.edge n14
                    have n1 : L 12 lz15_spec_JoinParts [(0, .sl 1), (2, .pp 2 0), (4, .pp 4 0), (5, .v (.int .i64 (t5 + (((y.getD t6.toNat (0, [])).2).length : Int)))), (6, .v (.int .i64 t6)), (7, .v (.int .i64 t7)), (60, .v (.bool (decide (t7 < (((y.getD t6.toNat (0, [])).2).length : Int))))), (64, .agg [.v (.int .i64 t4_0_2), .sl 5]), (65, .sl 1), (66, .v (.int .i64 t6)), (70, .v (.int .i64 t7))] [.row false (.graphs a0), .tak true (.graphs y) t6.toNat 1 (some 7), .box [.v (.int .i64 0), .sl 3], .row true (.trips []), .box [.v (.int .i64 t4_0_2), .sl 5], .row true (.trips t4_1s_2), .dead, .row true (.trips ((y.getD t6.toNat (0, [])).2))] := by
                      refine hL.step [(3, [4], 10, lz13_spec_JoinParts), (13, [], 11, lz14_spec_JoinParts)] (by kernel_rfl) ⟨?_, ?_, trivial⟩
                      · exact hL.edge n2
                      · exact hL.edge n15
                    have n20 : L 7 lz16_spec_JoinParts [(0, .sl 1), (2, .pp 2 0), (4, .pp 4 0), (5, .v (.int .i64 (t5 + (((y.getD t6.toNat (0, [])).2).length : Int)))), (6, .v (.int .i64 t6)), (7, .v (.int .i64 t7)), (8, .pp 8 0), (60, .v (.bool (decide (t7 < (((y.getD t6.toNat (0, [])).2).length : Int))))), (65, .sl 1), (66, .v (.int .i64 t6)), (67, .ep 1 t6.toNat 2 0), (68, .ep 1 t6.toNat 2 1), (69, .sl 7), (70, .v (.int .i64 t7)), (71, .ep 7 t7.toNat 3 0), (72, .agg [.v (.int .i64 ((((y.getD t6.toNat (0, [])).2).getD t7.toNat (0, 0, 0)).1)), .v (.int .i64 ((((y.getD t6.toNat (0, [])).2).getD t7.toNat (0, 0, 0)).2.1)), .v (.int .i64 ((((y.getD t6.toNat (0, [])).2).getD t7.toNat (0, 0, 0)).2.2))])] [.row false (.graphs a0), .tak true (.graphs y) t6.toNat 1 (some 7), .box [.v (.int .i64 0), .sl 3], .row true (.trips []), .box [.v (.int .i64 t4_0_2), .sl 5], .row true (.trips t4_1s_2), .dead, .row true (.trips ((y.getD t6.toNat (0, [])).2)), .box [.v (.int .i64 0), .v (.slice none 0 0)]] := by
                      refine hL.step [(0, [], 6, lz6_spec_JoinParts)] (by kernel_rfl) ⟨?_, trivial⟩
                      · exact hL.edge n11
                    have n19 : L 8 lz17_spec_JoinParts [(0, .sl 1), (2, .pp 2 0), (4, .pp 4 0), (5, .v (.int .i64 (t5 + (((y.getD t6.toNat (0, [])).2).length : Int)))), (6, .v (.int .i64 t6)), (7, .v (.int .i64 t7)), (60, .v (.bool (decide (t7 < (((y.getD t6.toNat (0, [])).2).length : Int))))), (65, .sl 1), (66, .v (.int .i64 t6)), (67, .ep 1 t6.toNat 2 0), (68, .ep 1 t6.toNat 2 1), (69, .sl 7), (70, .v (.int .i64 t7)), (71, .ep 7 t7.toNat 3 0), (72, .agg [.v (.int .i64 ((((y.getD t6.toNat (0, [])).2).getD t7.toNat (0, 0, 0)).1)), .v (.int .i64 ((((y.getD t6.toNat (0, [])).2).getD t7.toNat (0, 0, 0)).2.1)), .v (.int .i64 ((((y.getD t6.toNat (0, [])).2).getD t7.toNat (0, 0, 0)).2.2))])] [.row false (.graphs a0), .tak true (.graphs y) t6.toNat 1 (some 7), .box [.v (.int .i64 0), .sl 3], .row true (.trips []), .box [.v (.int .i64 t4_0_2), .sl 5], .row true (.trips t4_1s_2), .dead, .row true (.trips ((y.getD t6.toNat (0, [])).2))] := by
                      refine hL.step [(0, [], 7, lz7_spec_JoinParts), (13, [], 7, lz16_spec_JoinParts)] (by kernel_rfl) ⟨?_, ?_, trivial⟩
                      · exact hL.edge n5
                      · exact hL.edge n20
                    have n21 : L 8 lz18_spec_JoinParts [(0, .sl 1), (2, .pp 2 0), (4, .pp 4 0), (5, .v (.int .i64 (t5 + (((y.getD t6.toNat (0, [])).2).length : Int)))), (6, .v (.int .i64 t6)), (7, .v (.int .i64 t7)), (8, .pp 8 0), (60, .v (.bool (decide (t7 < (((y.getD t6.toNat (0, [])).2).length : Int))))), (65, .sl 1), (66, .v (.int .i64 t6)), (67, .ep 1 t6.toNat 2 0), (68, .ep 1 t6.toNat 2 1), (69, .sl 7), (70, .v (.int .i64 t7)), (71, .ep 7 t7.toNat 3 0)] [.row false (.graphs a0), .tak true (.graphs y) t6.toNat 1 (some 7), .box [.v (.int .i64 0), .sl 3], .row true (.trips []), .box [.v (.int .i64 t4_0_2), .sl 5], .row true (.trips t4_1s_2), .dead, .row true (.trips ((y.getD t6.toNat (0, [])).2)), .box [.v (.int .i64 0), .v (.slice none 0 0)]] := by
                      refine hL.step [(0, [], 7, lz8_spec_JoinParts), (8, [], 7, lz16_spec_JoinParts)] (by kernel_rfl) ⟨?_, ?_, trivial⟩
                      · exact hL.edge n12
                      · exact hL.edge n20
                    have n18 : L 9 lz19_spec_JoinParts [(0, .sl 1), (2, .pp 2 0), (4, .pp 4 0), (5, .v (.int .i64 (t5 + (((y.getD t6.toNat (0, [])).2).length : Int)))), (6, .v (.int .i64 t6)), (7, .v (.int .i64 t7)), (60, .v (.bool (decide (t7 < (((y.getD t6.toNat (0, [])).2).length : Int))))), (65, .sl 1), (66, .v (.int .i64 t6)), (67, .ep 1 t6.toNat 2 0), (68, .ep 1 t6.toNat 2 1), (69, .sl 7), (70, .v (.int .i64 t7)), (71, .ep 7 t7.toNat 3 0)] [.row false (.graphs a0), .tak true (.graphs y) t6.toNat 1 (some 7), .box [.v (.int .i64 0), .sl 3], .row true (.trips []), .box [.v (.int .i64 t4_0_2), .sl 5], .row true (.trips t4_1s_2), .dead, .row true (.trips ((y.getD t6.toNat (0, [])).2))] := by
                      refine hL.step [(0, [], 8, lz9_spec_JoinParts), (8, [], 8, lz17_spec_JoinParts), (13, [], 8, lz18_spec_JoinParts)] (by kernel_rfl) ⟨?_, ?_, ?_, trivial⟩
                      · exact hL.edge n4
                      · exact hL.edge n19
                      · exact hL.edge n21
                    have n22 : L 9 lz20_spec_JoinParts [(0, .sl 1), (2, .pp 2 0), (4, .pp 4 0), (5, .v (.int .i64 (t5 + (((y.getD t6.toNat (0, [])).2).length : Int)))), (6, .v (.int .i64 t6)), (7, .v (.int .i64 t7)), (8, .pp 8 0), (60, .v (.bool (decide (t7 < (((y.getD t6.toNat (0, [])).2).length : Int))))), (65, .sl 1), (66, .v (.int .i64 t6)), (67, .ep 1 t6.toNat 2 0), (68, .ep 1 t6.toNat 2 1), (69, .sl 7), (70, .v (.int .i64 t7))] [.row false (.graphs a0), .tak true (.graphs y) t6.toNat 1 (some 7), .box [.v (.int .i64 0), .sl 3], .row true (.trips []), .box [.v (.int .i64 t4_0_2), .sl 5], .row true (.trips t4_1s_2), .dead, .row true (.trips ((y.getD t6.toNat (0, [])).2)), .box [.v (.int .i64 0), .v (.slice none 0 0)]] := by
                      refine hL.step [(0, [], 8, lz10_spec_JoinParts), (7, [], 8, lz18_spec_JoinParts)] (by kernel_rfl) ⟨?_, ?_, trivial⟩
                      · exact hL.edge n13
                      · exact hL.edge n21
                    have n17 : L 10 lz21_spec_JoinParts [(0, .sl 1), (2, .pp 2 0), (4, .pp 4 0), (5, .v (.int .i64 (t5 + (((y.getD t6.toNat (0, [])).2).length : Int)))), (6, .v (.int .i64 t6)), (7, .v (.int .i64 t7)), (60, .v (.bool (decide (t7 < (((y.getD t6.toNat (0, [])).2).length : Int))))), (65, .sl 1), (66, .v (.int .i64 t6)), (67, .ep 1 t6.toNat 2 0), (68, .ep 1 t6.toNat 2 1), (69, .sl 7), (70, .v (.int .i64 t7))] [.row false (.graphs a0), .tak true (.graphs y) t6.toNat 1 (some 7), .box [.v (.int .i64 0), .sl 3], .row true (.trips []), .box [.v (.int .i64 t4_0_2), .sl 5], .row true (.trips t4_1s_2), .dead, .row true (.trips ((y.getD t6.toNat (0, [])).2))] := by
                      refine hL.step [(0, [], 9, lz11_spec_JoinParts), (7, [], 9, lz19_spec_JoinParts), (13, [], 9, lz20_spec_JoinParts)] (by kernel_rfl) ⟨?_, ?_, ?_, trivial⟩
                      · exact hL.edge n3
                      · exact hL.edge n18
                      · exact hL.edge n22
                    have n23 : L 10 lz22_spec_JoinParts [(0, .sl 1), (2, .pp 2 0), (4, .pp 4 0), (5, .v (.int .i64 (t5 + (((y.getD t6.toNat (0, [])).2).length : Int)))), (6, .v (.int .i64 t6)), (7, .v (.int .i64 t7)), (8, .pp 8 0), (60, .v (.bool (decide (t7 < (((y.getD t6.toNat (0, [])).2).length : Int))))), (65, .sl 1), (66, .v (.int .i64 t6)), (67, .ep 1 t6.toNat 2 0), (68, .ep 1 t6.toNat 2 1), (70, .v (.int .i64 t7))] [.row false (.graphs a0), .tak true (.graphs y) t6.toNat 1 (some 7), .box [.v (.int .i64 0), .sl 3], .row true (.trips []), .box [.v (.int .i64 t4_0_2), .sl 5], .row true (.trips t4_1s_2), .dead, .row true (.trips ((y.getD t6.toNat (0, [])).2)), .box [.v (.int .i64 0), .v (.slice none 0 0)]] := by
                      refine hL.step [(0, [], 9, lz12_spec_JoinParts), (5, [], 9, lz20_spec_JoinParts)] (by kernel_rfl) ⟨?_, ?_, trivial⟩
                      · exact hL.edge n14
                      · exact hL.edge n22
                    have n16 : L 11 lz23_spec_JoinParts [(0, .sl 1), (2, .pp 2 0), (4, .pp 4 0), (5, .v (.int .i64 (t5 + (((y.getD t6.toNat (0, [])).2).length : Int)))), (6, .v (.int .i64 t6)), (7, .v (.int .i64 t7)), (60, .v (.bool (decide (t7 < (((y.getD t6.toNat (0, [])).2).length : Int))))), (65, .sl 1), (66, .v (.int .i64 t6)), (67, .ep 1 t6.toNat 2 0), (68, .ep 1 t6.toNat 2 1), (70, .v (.int .i64 t7))] [.row false (.graphs a0), .tak true (.graphs y) t6.toNat 1 (some 7), .box [.v (.int .i64 0), .sl 3], .row true (.trips []), .box [.v (.int .i64 t4_0_2), .sl 5], .row true (.trips t4_1s_2), .dead, .row true (.trips ((y.getD t6.toNat (0, [])).2))] := by
                      refine hL.step [(0, [], 10, lz13_spec_JoinParts), (5, [], 10, lz21_spec_JoinParts), (13, [], 10, lz22_spec_JoinParts)] (by kernel_rfl) ⟨?_, ?_, ?_, trivial⟩
                      · exact hL.edge n2
                      · exact hL.edge n17
                      · exact hL.edge n23
                    have n24 : L 12 lz24_spec_JoinParts [(0, .sl 1), (2, .pp 2 0), (4, .pp 4 0), (5, .v (.int .i64 (t5 + (((y.getD t6.toNat (0, [])).2).length : Int)))), (6, .v (.int .i64 t6)), (7, .v (.int .i64 t7)), (8, .pp 8 0), (60, .v (.bool (decide (t7 < (((y.getD t6.toNat (0, [])).2).length : Int))))), (65, .sl 1), (66, .v (.int .i64 t6)), (70, .v (.int .i64 t7))] [.row false (.graphs a0), .tak true (.graphs y) t6.toNat 1 (some 7), .box [.v (.int .i64 0), .sl 3], .row true (.trips []), .box [.v (.int .i64 t4_0_2), .sl 5], .row true (.trips t4_1s_2), .dead, .row true (.trips ((y.getD t6.toNat (0, [])).2)), .box [.v (.int .i64 0), .v (.slice none 0 0)]] := by
                      refine hL.step [(0, [], 11, lz14_spec_JoinParts), (3, [4], 10, lz22_spec_JoinParts)] (by kernel_rfl) ⟨?_, ?_, trivial⟩
                      · exact hL.edge n15
                      · exact hL.edge n23
                    have n0 : L 13 lz0_spec_JoinParts [(0, .sl 1), (2, .pp 2 0), (4, .pp 4 0), (5, .v (.int .i64 (t5 + (((y.getD t6.toNat (0, [])).2).length : Int)))), (6, .v (.int .i64 t6)), (7, .v (.int .i64 t7)), (60, .v (.bool (decide (t7 < (((y.getD t6.toNat (0, [])).2).length : Int))))), (65, .sl 1), (66, .v (.int .i64 t6)), (70, .v (.int .i64 t7))] [.row false (.graphs a0), .tak true (.graphs y) t6.toNat 1 (some 7), .box [.v (.int .i64 0), .sl 3], .row true (.trips []), .box [.v (.int .i64 t4_0_2), .sl 5], .row true (.trips t4_1s_2), .dead, .row true (.trips ((y.getD t6.toNat (0, [])).2))] := by
                      refine hL.step [(0, [], 12, lz15_spec_JoinParts), (3, [4], 11, lz23_spec_JoinParts), (13, [], 12, lz24_spec_JoinParts)] (by kernel_rfl) ⟨?_, ?_, ?_, trivial⟩
                      · exact hL.edge n1
                      · exact hL.edge n16
                      · exact hL.edge n24
                    simp (maxSteps := 4000000) only [go_sem, Nat.reduceBEq, Nat.reduceLT, Nat.reduceAdd, Nat.reduceLeDiff, Nat.reduceSub, Nat.reduceEqDiff, Int.reduceToNat, reduceCtorEq, ↓reduceIte]
                    repeat' (first | refine And.intro ?_ ?_ | intro hg)
                    all_goals (try simp (disch := omega) only [wrap_fits])
                    all_goals first
                      | (refine hL.red ?_ n0; exact Red.auto)
                      | exact trivial
                      | assumption
                      | omega
                      | exact wrap_fits (by omega) (by omega)
                      | (simp (maxSteps := 4000000) only [go_sem, Nat.reduceBEq, Nat.reduceLT, Nat.reduceAdd, Nat.reduceLeDiff, Nat.reduceSub, Nat.reduceEqDiff, Int.reduceToNat, reduceCtorEq, ↓reduceIte]
                         repeat' (first | refine And.intro ?_ ?_ | intro hg)
                         all_goals (try simp (disch := omega) only [wrap_fits])
                         all_goals first | (refine hL.red ?_ n0; exact Red.auto) | exact trivial | assumption | omega | exact wrap_fits (by omega) (by omega))
                      | (simp_all; done)
                      | (simp_all; omega)
                  · clear hp0 hp1 hr2
                    refine awp_seq fun K871 hK871 => ?_
                    refine awp_put 1 7 (by rfl) (by rfl) (Cont.setChild_self (by rfl)) (by exact rfl) ?_
                    refine awp_reg ftCOk [(0, .sl 1), (2, .pp 2 0), (4, .pp 4 0), (5, .v (.int .i64 (t5 + (((y.getD t6.toNat (0, [])).2).length : Int)))), (6, .v (.int .i64 t6)), (7, .v (.int .i64 t7)), (8, .pp 9 0), (77, .v (.bool (!y_4)))] [.row false (.graphs a0), .row true (.graphs y), .box [.v (.int .i64 0), .sl 3], .row true (.trips []), .box [.v (.int .i64 t4_0_2), .sl 5], .row true (.trips t4_1s_2), .dead, .view 1 (.trips ((y.getD t6.toNat (0, [])).2)), .row true (.trips y_3), .box [.v (.int .i64 y_2), .sl 8]] ?_
                    refine awp_cond (t := 77) rfl (fun hc872 => ?_) (fun hc872 => ?_)
                    · replace h := bite_t h hc872
                      refine awp_reg ftCOk [(2, .pp 2 0), (3, .v (.bool false))] [.row false (.graphs a0), .row true (.graphs y), .box [.v (.int .i64 0), .v (.slice none 0 0)], .row true (.trips []), .box [.v (.int .i64 t4_0_2), .sl 5], .row true (.trips t4_1s_2), .dead, .view 1 (.trips ((y.getD t6.toNat (0, [])).2)), .row true (.trips y_3), .box [.v (.int .i64 y_2), .sl 8]] ?_
                      refine awp_ret ?_
                      (try simp only [Thn, InBlk, ↓reduceIte, Nat.reduceEqDiff])
                      obtain rfl := Option.some.inj h
                      refine LoopQ.out rfl ?_
                      refine Red.trans (Red.nilCell (o := 2) (i := 1) (.trips []) rfl rfl rfl) ?_
                      exact Red.selA [0, 2, 10] Red.auto
                    · replace h := bite_f h hc872
                      refine awp_skip ?_
                      (try simp only [Thn, InBlk, ↓reduceIte, Nat.reduceEqDiff])
                      refine hK871 _ _ ?_
                      clear hK871
                      refine awp_regE ftCOk [(0, .sl 1), (2, .pp 2 0), (4, .pp 4 0), (5, .v (.int .i64 (t5 + (((y.getD t6.toNat (0, [])).2).length : Int)))), (6, .v (.int .i64 t6)), (7, .v (.int .i64 t7))] [.row false (.graphs a0), .row true (.graphs y), .box [.v (.int .i64 0), .sl 3], .row true (.trips []), .box [.v (.int .i64 y_2), .sl 8], .row true (.trips t4_1s_2), .dead, .view 1 (.trips ((y.getD t6.toNat (0, [])).2)), .row true (.trips y_3), .box [.v (.int .i64 y_2), .sl 8]] ?_
                      (try simp only [Thn, InBlk, ↓reduceIte, Nat.reduceEqDiff])
                      (try simp only [Thn, InBlk, ↓reduceIte, Nat.reduceEqDiff])
                      refine hK869 _ _ ?_
                      clear hK869
                      replace h := chk_some h
                      obtain ⟨hp0, h⟩ := h
                      refine awp_regE ftCOk [(0, .sl 1), (2, .pp 2 0), (4, .pp 4 0), (5, .v (.int .i64 (t5 + (((y.getD t6.toNat (0, [])).2).length : Int)))), (6, .v (.int .i64 t6)), (7, .v (.int .i64 (t7 + 1)))] [.row false (.graphs a0), .row true (.graphs y), .box [.v (.int .i64 0), .sl 3], .row true (.trips []), .box [.v (.int .i64 y_2), .sl 8], .row true (.trips t4_1s_2), .dead, .view 1 (.trips ((y.getD t6.toNat (0, [])).2)), .row true (.trips y_3), .box [.v (.int .i64 y_2), .sl 8]] ?_
                      clear hp0
                      obtain rfl := Option.some.inj h
                      refine LoopQ.next ?_
                      exact Red.selA [0, 1, 2, 3, 4, 8] Red.auto
                · replace h := bite_f h hc864
                  refine awp_exit ?_
                  (try simp only [Thn, InBlk, ↓reduceIte, Nat.reduceEqDiff])
                  obtain rfl := Option.some.inj h
                  refine LoopQ.out rfl ?_
                  refine Red.trans (Red.put 1 6 (by rfl) (by rfl) (Cont.setChild_self (by rfl))) ?_
                  exact Red.selA [0, 1, 2, 3, 4, 5] Red.auto
              · clear hx
                rcases x875 with (⟨t4_0_3, t4_1s_3⟩ | ⟨⟩)
                · try dsimp only [Sum.elim_inl, Sum.elim_inr] at h
                  try dsimp only [Sum.elim_inl, Sum.elim_inr]
                  (try simp only [Thn, InBlk, ↓reduceIte, Nat.reduceEqDiff])
                  (try simp only [Thn, InBlk, ↓reduceIte, Nat.reduceEqDiff])
                  (try simp only [Thn, InBlk, ↓reduceIte, Nat.reduceEqDiff])
                  (try simp only [Thn, InBlk, ↓reduceIte, Nat.reduceEqDiff])
                  refine hK828 _ _ ?_
                  clear hK828
                  replace h := chk_some h
                  obtain ⟨hp0, h⟩ := h
                  refine awp_regE ftCOk [(0, .sl 1), (2, .pp 2 0), (4, .pp 4 0), (5, .v (.int .i64 (t5 + (((y.getD t6.toNat (0, [])).2).length : Int)))), (6, .v (.int .i64 (t6 + 1)))] [.row false (.graphs a0), .row true (.graphs y), .box [.v (.int .i64 0), .sl 3], .row true (.trips []), .box [.v (.int .i64 t4_0_3), .sl 5], .row true (.trips t4_1s_3)] ?_
                  clear hp0
                  obtain rfl := Option.some.inj h
                  refine LoopQ.next ?_
                  exact Red.auto
                · try dsimp only [Sum.elim_inl, Sum.elim_inr] at h
                  try dsimp only [Sum.elim_inl, Sum.elim_inr]
                  (try simp only [Thn, InBlk, ↓reduceIte, Nat.reduceEqDiff])
                  obtain rfl := Option.some.inj h
                  refine LoopQ.out rfl ?_
                  exact Red.auto
        · replace h := bite_f h hc778
          refine awp_exit ?_
          (try simp only [Thn, InBlk, ↓reduceIte, Nat.reduceEqDiff])
          obtain rfl := Option.some.inj h
          refine LoopQ.out rfl ?_
          exact Red.selA [0, 2, 3, 4, 5] Red.auto
      · clear hx
        rcases x878 with (⟨t5_1, t4_0_1, t4_1s_1⟩ | ⟨⟩)
        · try dsimp only [Sum.elim_inl, Sum.elim_inr] at h
          try dsimp only [Sum.elim_inl, Sum.elim_inr]
          (try simp only [Thn, InBlk, ↓reduceIte, Nat.reduceEqDiff])
          (try simp only [Thn, InBlk, ↓reduceIte, Nat.reduceEqDiff])
          (try simp only [Thn, InBlk, ↓reduceIte, Nat.reduceEqDiff])
          refine hK441 _ _ ?_
          clear hK441
          refine awp_seq fun K880 hK880 => ?_
          refine awp_reg ftCOk [(2, .pp 1 0), (4, .pp 3 0), (84, .v (.bool ((t4_1s_1.length : Int) != t5_1)))] [.row false (.graphs a0), .box [.v (.int .i64 0), .sl 2], .row true (.trips []), .box [.v (.int .i64 t4_0_1), .sl 4], .row true (.trips t4_1s_1)] ?_
          refine awp_cond (t := 84) rfl (fun hc881 => ?_) (fun hc881 => ?_)
          · replace h := bite_t h hc881
            refine awp_reg ftCOk [(2, .pp 1 0), (3, .v (.bool false))] [.row false (.graphs a0), .box [.v (.int .i64 0), .v (.slice none 0 0)], .row true (.trips []), .box [.v (.int .i64 t4_0_1), .sl 4], .row true (.trips t4_1s_1)] ?_
            refine awp_red (Red.nilCell (o := 1) (i := 1) (.trips []) rfl rfl rfl) ?_
            refine awp_ret ?_
            (try simp only [Thn, InBlk, ↓reduceIte, Nat.reduceEqDiff])
            obtain rfl := Option.some.inj h
            refine ⟨by simp, _, [0, 5], (by simp only [go_sem, Nat.reduceBEq, Nat.reduceLT, Nat.reduceAdd, Nat.reduceLeDiff, Nat.reduceSub, Nat.reduceEqDiff, Int.reduceToNat, reduceCtorEq, ↓reduceIte]; exact rfl), ?_, ?_, ?_, ?_⟩
            · first | exact trivial | exact ⟨trivial, trivial⟩ | exact ⟨trivial, trivial, trivial⟩ | exact ⟨trivial, trivial, trivial, trivial⟩ | (simp only [allP, and_true, true_and]; done) | (simp only [allP, and_true, true_and]; omega)
            · simp [selOk, pos]
            · simp
            · first | exact ⟨rfl, rfl⟩ | (simp only [go_sem, Nat.reduceBEq, Nat.reduceLT, Nat.reduceAdd, Nat.reduceLeDiff, Nat.reduceSub, Nat.reduceEqDiff, Int.reduceToNat, reduceCtorEq, ↓reduceIte]; done) | (simp [go_sem, Nat.reduceBEq, Nat.reduceLT, Nat.reduceAdd, Nat.reduceLeDiff, Nat.reduceSub, Nat.reduceEqDiff, Int.reduceToNat, reduceCtorEq, ↓reduceIte]; done) | (simp only [go_sem, Nat.reduceBEq, Nat.reduceLT, Nat.reduceAdd, Nat.reduceLeDiff, Nat.reduceSub, Nat.reduceEqDiff, Int.reduceToNat, reduceCtorEq, ↓reduceIte]; exact ⟨rfl, rfl⟩) | (simp_all [go_sem, Nat.reduceBEq, Nat.reduceLT, Nat.reduceAdd, Nat.reduceLeDiff, Nat.reduceSub, Nat.reduceEqDiff, Int.reduceToNat, reduceCtorEq, ↓reduceIte]; done)
          · replace h := bite_f h hc881
            refine awp_skip ?_
            (try simp only [Thn, InBlk, ↓reduceIte, Nat.reduceEqDiff])
            refine hK880 _ _ ?_
            clear hK880
            refine awp_reg ftCOk [(2, .pp 1 0), (3, .v (.bool true))] [.row false (.graphs a0), .box [.v (.int .i64 t4_0_1), .sl 4], .row true (.trips []), .box [.v (.int .i64 t4_0_1), .sl 4], .row true (.trips t4_1s_1)] ?_
            refine awp_ret ?_
            (try simp only [Thn, InBlk, ↓reduceIte, Nat.reduceEqDiff])
            obtain rfl := Option.some.inj h
            refine ⟨by simp, _, [0, 4], (by simp only [go_sem, Nat.reduceBEq, Nat.reduceLT, Nat.reduceAdd, Nat.reduceLeDiff, Nat.reduceSub, Nat.reduceEqDiff, Int.reduceToNat, reduceCtorEq, ↓reduceIte]; exact rfl), ?_, ?_, ?_, ?_⟩
            · first | exact trivial | exact ⟨trivial, trivial⟩ | exact ⟨trivial, trivial, trivial⟩ | exact ⟨trivial, trivial, trivial, trivial⟩ | (simp only [allP, and_true, true_and]; done) | (simp only [allP, and_true, true_and]; omega)
            · simp [selOk, pos]
            · simp
            · first | exact ⟨rfl, rfl⟩ | (simp only [go_sem, Nat.reduceBEq, Nat.reduceLT, Nat.reduceAdd, Nat.reduceLeDiff, Nat.reduceSub, Nat.reduceEqDiff, Int.reduceToNat, reduceCtorEq, ↓reduceIte]; done) | (simp [go_sem, Nat.reduceBEq, Nat.reduceLT, Nat.reduceAdd, Nat.reduceLeDiff, Nat.reduceSub, Nat.reduceEqDiff, Int.reduceToNat, reduceCtorEq, ↓reduceIte]; done) | (simp only [go_sem, Nat.reduceBEq, Nat.reduceLT, Nat.reduceAdd, Nat.reduceLeDiff, Nat.reduceSub, Nat.reduceEqDiff, Int.reduceToNat, reduceCtorEq, ↓reduceIte]; exact ⟨rfl, rfl⟩) | (simp_all [go_sem, Nat.reduceBEq, Nat.reduceLT, Nat.reduceAdd, Nat.reduceLeDiff, Nat.reduceSub, Nat.reduceEqDiff, Int.reduceToNat, reduceCtorEq, ↓reduceIte]; done)
        · try dsimp only [Sum.elim_inl, Sum.elim_inr] at h
          try dsimp only [Sum.elim_inl, Sum.elim_inr]
          (try simp only [Thn, InBlk, ↓reduceIte, Nat.reduceEqDiff])
          obtain rfl := Option.some.inj h
          refine ⟨by simp, _, [0, 2], (by simp only [go_sem, Nat.reduceBEq, Nat.reduceLT, Nat.reduceAdd, Nat.reduceLeDiff, Nat.reduceSub, Nat.reduceEqDiff, Int.reduceToNat, reduceCtorEq, ↓reduceIte]; exact rfl), ?_, ?_, ?_, ?_⟩
          · first | exact trivial | exact ⟨trivial, trivial⟩ | exact ⟨trivial, trivial, trivial⟩ | exact ⟨trivial, trivial, trivial, trivial⟩ | (simp only [allP, and_true, true_and]; done) | (simp only [allP, and_true, true_and]; omega)
          · simp [selOk, pos]
          · simp
          · first | exact ⟨rfl, rfl⟩ | (simp only [go_sem, Nat.reduceBEq, Nat.reduceLT, Nat.reduceAdd, Nat.reduceLeDiff, Nat.reduceSub, Nat.reduceEqDiff, Int.reduceToNat, reduceCtorEq, ↓reduceIte]; done) | (simp [go_sem, Nat.reduceBEq, Nat.reduceLT, Nat.reduceAdd, Nat.reduceLeDiff, Nat.reduceSub, Nat.reduceEqDiff, Int.reduceToNat, reduceCtorEq, ↓reduceIte]; done) | (simp only [go_sem, Nat.reduceBEq, Nat.reduceLT, Nat.reduceAdd, Nat.reduceLeDiff, Nat.reduceSub, Nat.reduceEqDiff, Int.reduceToNat, reduceCtorEq, ↓reduceIte]; exact ⟨rfl, rfl⟩) | (simp_all [go_sem, Nat.reduceBEq, Nat.reduceLT, Nat.reduceAdd, Nat.reduceLeDiff, Nat.reduceSub, Nat.reduceEqDiff, Int.reduceToNat, reduceCtorEq, ↓reduceIte]; done)
theorem k_impl_workersFit (a0 : Int) {r : Bool} (h : impl_workersFit a0 = some r) :
    FnA Try.prog 28 [.v (.int .i64 a0)] [] [] (fun x H => x = .v (.bool r) ∧ H = []) := by
  unfold impl_workersFit at h
  refine FnA.of (N := 9) (pin := []) (rs := [.tmp 2]) Try.func28 rfl en28 rfl rfl (by simp) (by simp; try omega) ?_
  refine awp_reg ftCOk [(0, .v (.int .i64 a0))] [] ?_
  refine awp_reg ftCOk [(2, .v (.bool ((decide (1 ≤ a0)) && (decide (a0 ≤ 6)))))] [] ?_
  refine awp_ret ?_
  (try simp only [Thn, InBlk, ↓reduceIte, Nat.reduceEqDiff])
  obtain rfl := Option.some.inj h
  refine ⟨by simp, _, [], (by simp only [go_sem, Nat.reduceBEq, Nat.reduceLT, Nat.reduceAdd, Nat.reduceLeDiff, Nat.reduceSub, Nat.reduceEqDiff, Int.reduceToNat, reduceCtorEq, ↓reduceIte]; exact rfl), ?_, ?_, ?_, ?_⟩
  · first | exact trivial | exact ⟨trivial, trivial⟩ | exact ⟨trivial, trivial, trivial⟩ | exact ⟨trivial, trivial, trivial, trivial⟩ | (simp only [allP, and_true, true_and]; done) | (simp only [allP, and_true, true_and]; omega)
  · simp [selOk, pos]
  · simp
  · first | exact ⟨rfl, rfl⟩ | (simp only [go_sem, Nat.reduceBEq, Nat.reduceLT, Nat.reduceAdd, Nat.reduceLeDiff, Nat.reduceSub, Nat.reduceEqDiff, Int.reduceToNat, reduceCtorEq, ↓reduceIte]; done) | (simp [go_sem, Nat.reduceBEq, Nat.reduceLT, Nat.reduceAdd, Nat.reduceLeDiff, Nat.reduceSub, Nat.reduceEqDiff, Int.reduceToNat, reduceCtorEq, ↓reduceIte]; done) | (simp only [go_sem, Nat.reduceBEq, Nat.reduceLT, Nat.reduceAdd, Nat.reduceLeDiff, Nat.reduceSub, Nat.reduceEqDiff, Int.reduceToNat, reduceCtorEq, ↓reduceIte]; exact ⟨rfl, rfl⟩) | (simp_all [go_sem, Nat.reduceBEq, Nat.reduceLT, Nat.reduceAdd, Nat.reduceLeDiff, Nat.reduceSub, Nat.reduceEqDiff, Int.reduceToNat, reduceCtorEq, ↓reduceIte]; done)
theorem k_impl_Graph_has (a0_0 : Int) (a0_1 : List (Int × Int × Int)) (a1 : Int) {r : Bool} (h : impl_Graph_has a0_0 a0_1 a1 = some r) :
    FnA Try.prog 36 [.agg [.v (.int .i64 a0_0), .sl 0], .v (.int .i64 a1)] [.row false (.trips a0_1)] [] (fun x H => x = .v (.bool r) ∧ H = [.row false (.trips a0_1)]) := by
  unfold impl_Graph_has at h
  refine FnA.of (N := 13) (pin := [0]) (rs := [.tmp 4]) Try.func36 rfl en36 rfl rfl (by simp) (by simp; try omega) ?_
  refine awp_reg ftCOk [(1, .v (.int .i64 a1)), (2, .pp 1 0)] [.row false (.trips a0_1), .box [.v (.int .i64 a0_0), .sl 0]] ?_
  refine awp_freeze 2 (by rfl) (by rfl) (by exact rfl) ?_
  refine awp_reg ftCOk [(4, .v (.bool ((decide (0 ≤ a1)) && (decide (a1 < a0_0)))))] [.row false (.trips a0_1), .rbox [.v (.int .i64 a0_0), .sl 0]] ?_
  refine awp_ret ?_
  (try simp only [Thn, InBlk, ↓reduceIte, Nat.reduceEqDiff])
  obtain rfl := Option.some.inj h
  refine ⟨by simp, _, [0], (by simp only [go_sem, Nat.reduceBEq, Nat.reduceLT, Nat.reduceAdd, Nat.reduceLeDiff, Nat.reduceSub, Nat.reduceEqDiff, Int.reduceToNat, reduceCtorEq, ↓reduceIte]; exact rfl), ?_, ?_, ?_, ?_⟩
  · first | exact trivial | exact ⟨trivial, trivial⟩ | exact ⟨trivial, trivial, trivial⟩ | exact ⟨trivial, trivial, trivial, trivial⟩ | (simp only [allP, and_true, true_and]; done) | (simp only [allP, and_true, true_and]; omega)
  · simp [selOk, pos]
  · simp
  · first | exact ⟨rfl, rfl⟩ | (simp only [go_sem, Nat.reduceBEq, Nat.reduceLT, Nat.reduceAdd, Nat.reduceLeDiff, Nat.reduceSub, Nat.reduceEqDiff, Int.reduceToNat, reduceCtorEq, ↓reduceIte]; done) | (simp [go_sem, Nat.reduceBEq, Nat.reduceLT, Nat.reduceAdd, Nat.reduceLeDiff, Nat.reduceSub, Nat.reduceEqDiff, Int.reduceToNat, reduceCtorEq, ↓reduceIte]; done) | (simp only [go_sem, Nat.reduceBEq, Nat.reduceLT, Nat.reduceAdd, Nat.reduceLeDiff, Nat.reduceSub, Nat.reduceEqDiff, Int.reduceToNat, reduceCtorEq, ↓reduceIte]; exact ⟨rfl, rfl⟩) | (simp_all [go_sem, Nat.reduceBEq, Nat.reduceLT, Nat.reduceAdd, Nat.reduceLeDiff, Nat.reduceSub, Nat.reduceEqDiff, Int.reduceToNat, reduceCtorEq, ↓reduceIte]; done)
theorem k_impl_GraphValid (a0_0 : Int) (a0_1 : List (Int × Int × Int)) {r : Bool} (h : impl_GraphValid a0_0 a0_1 = some r) :
    FnA Try.prog 14 [.agg [.v (.int .i64 a0_0), .sl 0]] [.row false (.trips a0_1)] [] (fun x H => x = .v (.bool r) ∧ H = [.row false (.trips a0_1)]) := by
  unfold impl_GraphValid at h
  refine FnA.of (N := 68) (pin := [0]) (rs := [.tmp 2]) Try.func14 rfl en14 rfl rfl (by simp) (by simp; try omega) ?_
  refine awp_reg ftCOk [(1, .pp 1 0)] [.row false (.trips a0_1), .box [.v (.int .i64 a0_0), .sl 0]] ?_
  refine awp_freeze 1 (by rfl) (by rfl) (by exact rfl) ?_
  refine awp_seq fun K2 hK2 => ?_
  refine awp_reg ftCOk [(1, .pp 1 0), (18, .v (.bool (((decide (a0_0 < 0)) || (decide (16 < a0_0))) || (decide (40 < (a0_1.length : Int))))))] [.row false (.trips a0_1), .rbox [.v (.int .i64 a0_0), .sl 0]] ?_
  refine awp_cond (t := 18) rfl (fun hc3 => ?_) (fun hc3 => ?_)
  · replace h := bite_t h hc3
    refine awp_reg ftCOk [(2, .v (.bool false))] [.row false (.trips a0_1), .rbox [.v (.int .i64 a0_0), .sl 0]] ?_
    refine awp_ret ?_
    (try simp only [Thn, InBlk, ↓reduceIte, Nat.reduceEqDiff])
    obtain rfl := Option.some.inj h
    refine ⟨by simp, _, [0], (by simp only [go_sem, Nat.reduceBEq, Nat.reduceLT, Nat.reduceAdd, Nat.reduceLeDiff, Nat.reduceSub, Nat.reduceEqDiff, Int.reduceToNat, reduceCtorEq, ↓reduceIte]; exact rfl), ?_, ?_, ?_, ?_⟩
    · first | exact trivial | exact ⟨trivial, trivial⟩ | exact ⟨trivial, trivial, trivial⟩ | exact ⟨trivial, trivial, trivial, trivial⟩ | (simp only [allP, and_true, true_and]; done) | (simp only [allP, and_true, true_and]; omega)
    · simp [selOk, pos]
    · simp
    · first | exact ⟨rfl, rfl⟩ | (simp only [go_sem, Nat.reduceBEq, Nat.reduceLT, Nat.reduceAdd, Nat.reduceLeDiff, Nat.reduceSub, Nat.reduceEqDiff, Int.reduceToNat, reduceCtorEq, ↓reduceIte]; done) | (simp [go_sem, Nat.reduceBEq, Nat.reduceLT, Nat.reduceAdd, Nat.reduceLeDiff, Nat.reduceSub, Nat.reduceEqDiff, Int.reduceToNat, reduceCtorEq, ↓reduceIte]; done) | (simp only [go_sem, Nat.reduceBEq, Nat.reduceLT, Nat.reduceAdd, Nat.reduceLeDiff, Nat.reduceSub, Nat.reduceEqDiff, Int.reduceToNat, reduceCtorEq, ↓reduceIte]; exact ⟨rfl, rfl⟩) | (simp_all [go_sem, Nat.reduceBEq, Nat.reduceLT, Nat.reduceAdd, Nat.reduceLeDiff, Nat.reduceSub, Nat.reduceEqDiff, Int.reduceToNat, reduceCtorEq, ↓reduceIte]; done)
  · replace h := bite_f h hc3
    refine awp_skip ?_
    (try simp only [Thn, InBlk, ↓reduceIte, Nat.reduceEqDiff])
    refine hK2 _ _ ?_
    clear hK2
    refine awp_seq fun K59 hK59 => ?_
    refine awp_reg ftCOk [(1, .pp 1 0), (20, .sl 0), (21, .v (.int .i64 (a0_1.length : Int))), (22, .v (.int .i64 0))] [.row false (.trips a0_1), .rbox [.v (.int .i64 a0_0), .sl 0]] ?_
    refine awp_block ?_
    replace h := bind_some h
    obtain ⟨x114, hx, h⟩ := h
    refine awp_loopL hx (fun (t22 : Int) => [(1, .pp 1 0), (20, .sl 0), (21, .v (.int .i64 (a0_1.length : Int))), (22, .v (.int .i64 t22))]) (fun (t22 : Int) => [.row false (.trips a0_1), .rbox [.v (.int .i64 a0_0), .sl 0]]) (Sum.elim (fun (_ : Unit) => Exit.exit 0) (fun (_ : Unit) => Exit.ret)) (Sum.elim (fun (_ : Unit) => []) (fun (_ : Unit) => [(2, .v (.bool false))])) (Sum.elim (fun (_ : Unit) => [.row false (.trips a0_1)]) (fun (_ : Unit) => [.row false (.trips a0_1)])) ?_ ?_ ?_ ?_
    · rintro (⟨⟩ | ⟨⟩) hy <;> cases hy
    · clear h hx
      exact Red.auto
    · clear h hx
      rintro t22 r h
      unfold impl_GraphValid_b0 at h
      try dsimp only at h
      try dsimp only
      refine awp_reg ftCOk [(1, .pp 1 0), (20, .sl 0), (21, .v (.int .i64 (a0_1.length : Int))), (22, .v (.int .i64 t22)), (23, .v (.bool (decide (t22 < (a0_1.length : Int)))))] [.row false (.trips a0_1), .rbox [.v (.int .i64 a0_0), .sl 0]] ?_
      refine awp_seq fun K97 hK97 => ?_
      refine awp_cond (t := 23) rfl (fun hc98 => ?_) (fun hc98 => ?_)
      · replace h := bite_t h hc98
        refine awp_skip ?_
        (try simp only [Thn, InBlk, ↓reduceIte, Nat.reduceEqDiff])
        refine hK97 _ _ ?_
        clear hK97
        refine awp_seq fun K106 hK106 => ?_
        refine awp_block ?_
        replace h := chk_some h
        obtain ⟨hp0, h⟩ := h
        refine awp_reg ftCOk [(1, .pp 1 0), (3, .v (.int .i64 t22)), (4, .pp 2 0), (20, .sl 0), (21, .v (.int .i64 (a0_1.length : Int))), (22, .v (.int .i64 t22))] [.row false (.trips a0_1), .rbox [.v (.int .i64 a0_0), .sl 0], .box [.v (.int .i64 ((a0_1.getD t22.toNat (0, 0, 0)).1)), .v (.int .i64 ((a0_1.getD t22.toNat (0, 0, 0)).2.1)), .v (.int .i64 ((a0_1.getD t22.toNat (0, 0, 0)).2.2))]] ?_
        clear hp0
        refine awp_seq fun K108 hK108 => ?_
        replace h := bind_some h
        obtain ⟨y, hr0, h⟩ := h
        try dsimp only at h
        replace h := bind_some h
        obtain ⟨y_1, hr1, h⟩ := h
        try dsimp only at h
        refine awp_to [(1, .pp 1 0), (3, .v (.int .i64 t22)), (4, .pp 2 0), (20, .sl 0), (21, .v (.int .i64 (a0_1.length : Int))), (22, .v (.int .i64 t22)), (45, .v (.bool (((!y) || (!y_1)) || ((a0_1.getD t22.toNat (0, 0, 0)).1 == (a0_1.getD t22.toNat (0, 0, 0)).2.1))))] [.row false (.trips a0_1), .rbox [.v (.int .i64 a0_0), .sl 0], .box [.v (.int .i64 ((a0_1.getD t22.toNat (0, 0, 0)).1)), .v (.int .i64 ((a0_1.getD t22.toNat (0, 0, 0)).2.1)), .v (.int .i64 ((a0_1.getD t22.toNat (0, 0, 0)).2.2))]] ?_ ?_
        · clear h
          intro K hK
          refine awp_regionA ?_
          refine wpA_cutAt 12 [(1, .pp 1 0), (3, .v (.int .i64 t22)), (4, .pp 2 0), (20, .sl 0), (21, .v (.int .i64 (a0_1.length : Int))), (22, .v (.int .i64 t22)), (38, .v (.bool ((!y) || (!y_1))))] [.row false (.trips a0_1), .rbox [.v (.int .i64 a0_0), .sl 0], .box [.v (.int .i64 ((a0_1.getD t22.toNat (0, 0, 0)).1)), .v (.int .i64 ((a0_1.getD t22.toNat (0, 0, 0)).2.1)), .v (.int .i64 ((a0_1.getD t22.toNat (0, 0, 0)).2.2))]] ?_ ?_
          · clear hK K
            intro K hK
            refine vcOps_sound ftCOk ?_
            simp (maxSteps := 4000000) only [go_sem, Nat.reduceBEq, Nat.reduceLT, Nat.reduceAdd, Nat.reduceLeDiff, Nat.reduceSub, Nat.reduceEqDiff, Int.reduceToNat, reduceCtorEq, ↓reduceIte]
            repeat' (first | refine And.intro ?_ ?_ | intro hg)
            all_goals (try simp (disch := omega) only [wrap_fits])
            all_goals first
              | (refine hK _ _ ?_; exact Red.auto)
              | exact trivial
              | assumption
              | omega
              | exact wrap_fits (by omega) (by omega)
              | (refine wpA_callA (k_impl_Graph_has a0_0 a0_1 ((a0_1.getD t22.toNat (0, 0, 0)).1) (h := hr0)) [0] [] ?_
                 rintro x Hc' ⟨rfl, rfl⟩ hlen
                 refine vcOps_sound ftCOk ?_
                 simp (maxSteps := 4000000) only [go_sem, Nat.reduceBEq, Nat.reduceLT, Nat.reduceAdd, Nat.reduceLeDiff, Nat.reduceSub, Nat.reduceEqDiff, Int.reduceToNat, reduceCtorEq, ↓reduceIte]
                 repeat' (first | refine And.intro ?_ ?_ | intro hg)
                 all_goals (try simp (disch := omega) only [wrap_fits])
                 all_goals first
                   | (refine hK _ _ ?_; exact Red.auto)
                   | exact trivial
                   | assumption
                   | omega
                   | exact wrap_fits (by omega) (by omega)
                   | (refine wpA_guard rfl rfl ?_
                      refine wpA_callA (k_impl_Graph_has a0_0 a0_1 ((a0_1.getD t22.toNat (0, 0, 0)).2.1) (h := (bite_t hr1 (by rw [Bool.not_eq_true']; exact (by first | assumption | (simp only [*, Bool.false_or, Bool.true_or, Bool.or_false, Bool.or_true, Bool.false_and, Bool.true_and, Bool.and_false, Bool.and_true, Bool.not_true, Bool.not_false, beq_self_eq_true]; done) | (simp_all; done)))))) [0] [] ?_
                      rintro x Hc' ⟨rfl, rfl⟩ hlen
                      refine vcOps_sound ftCOk ?_
                      simp (maxSteps := 4000000) only [go_sem, Nat.reduceBEq, Nat.reduceLT, Nat.reduceAdd, Nat.reduceLeDiff, Nat.reduceSub, Nat.reduceEqDiff, Int.reduceToNat, reduceCtorEq, ↓reduceIte]
                      repeat' (first | refine And.intro ?_ ?_ | intro hg)
                      all_goals (try simp (disch := omega) only [wrap_fits])
                      all_goals first
                        | (refine hK _ _ ?_; exact Red.auto)
                        | exact trivial
                        | assumption
                        | omega
                        | exact wrap_fits (by omega) (by omega)
                        | (simp_all; done)
                        | (simp_all; omega))
                   | (simp_all; done)
                   | (simp_all; omega))
              | (simp_all; done)
              | (simp_all; omega)
          refine vcOps_sound ftCOk ?_
          simp (maxSteps := 4000000) only [go_sem, Nat.reduceBEq, Nat.reduceLT, Nat.reduceAdd, Nat.reduceLeDiff, Nat.reduceSub, Nat.reduceEqDiff, Int.reduceToNat, reduceCtorEq, ↓reduceIte]
          repeat' (first | refine And.intro ?_ ?_ | intro hg)
          all_goals (try simp (disch := omega) only [wrap_fits])
          all_goals first
            | (refine hK _ _ ?_; exact Red.auto)
            | exact trivial
            | assumption
            | omega
            | exact wrap_fits (by omega) (by omega)
            | (simp_all; done)
            | (simp_all; omega)
        · clear hr0 hr1
          refine awp_cond (t := 45) rfl (fun hc109 => ?_) (fun hc109 => ?_)
          · replace h := bite_t h hc109
            refine awp_reg ftCOk [(2, .v (.bool false))] [.row false (.trips a0_1), .rbox [.v (.int .i64 a0_0), .sl 0], .box [.v (.int .i64 ((a0_1.getD t22.toNat (0, 0, 0)).1)), .v (.int .i64 ((a0_1.getD t22.toNat (0, 0, 0)).2.1)), .v (.int .i64 ((a0_1.getD t22.toNat (0, 0, 0)).2.2))]] ?_
            refine awp_ret ?_
            (try simp only [Thn, InBlk, ↓reduceIte, Nat.reduceEqDiff])
            obtain rfl := Option.some.inj h
            refine LoopQ.out rfl ?_
            exact Red.selA [0] Red.auto
          · replace h := bite_f h hc109
            refine awp_skip ?_
            (try simp only [Thn, InBlk, ↓reduceIte, Nat.reduceEqDiff])
            refine hK108 _ _ ?_
            clear hK108
            refine awp_seq fun K111 hK111 => ?_
            refine awp_reg ftCOk [(1, .pp 1 0), (3, .v (.int .i64 t22)), (4, .pp 2 0), (20, .sl 0), (21, .v (.int .i64 (a0_1.length : Int))), (22, .v (.int .i64 t22)), (53, .v (.bool ((decide ((a0_1.getD t22.toNat (0, 0, 0)).2.2 < 0)) || (decide (20 < (a0_1.getD t22.toNat (0, 0, 0)).2.2)))))] [.row false (.trips a0_1), .rbox [.v (.int .i64 a0_0), .sl 0], .box [.v (.int .i64 ((a0_1.getD t22.toNat (0, 0, 0)).1)), .v (.int .i64 ((a0_1.getD t22.toNat (0, 0, 0)).2.1)), .v (.int .i64 ((a0_1.getD t22.toNat (0, 0, 0)).2.2))]] ?_
            refine awp_cond (t := 53) rfl (fun hc112 => ?_) (fun hc112 => ?_)
            · replace h := bite_t h hc112
              refine awp_reg ftCOk [(2, .v (.bool false))] [.row false (.trips a0_1), .rbox [.v (.int .i64 a0_0), .sl 0], .box [.v (.int .i64 ((a0_1.getD t22.toNat (0, 0, 0)).1)), .v (.int .i64 ((a0_1.getD t22.toNat (0, 0, 0)).2.1)), .v (.int .i64 ((a0_1.getD t22.toNat (0, 0, 0)).2.2))]] ?_
              refine awp_ret ?_
              (try simp only [Thn, InBlk, ↓reduceIte, Nat.reduceEqDiff])
              obtain rfl := Option.some.inj h
              refine LoopQ.out rfl ?_
              exact Red.selA [0] Red.auto
            · replace h := bite_f h hc112
              refine awp_skip ?_
              (try simp only [Thn, InBlk, ↓reduceIte, Nat.reduceEqDiff])
              refine hK111 _ _ ?_
              clear hK111
              replace h := chk_some h
              obtain ⟨hp0, h⟩ := h
              have hwhp0 := wrap_fits hp0.1 hp0.2
              replace h := chk_some h
              obtain ⟨hp1, h⟩ := h
              refine awp_to [(1, .pp 1 0), (20, .sl 0), (21, .v (.int .i64 (a0_1.length : Int))), (22, .v (.int .i64 t22)), (66, .v (.bool ((decide (0 < t22)) && (decide (0 ≤ (orF [cmpI (a0_1.getD ((t22 - 1).toNat) (0, 0, 0)).1 (a0_1.getD t22.toNat (0, 0, 0)).1, cmpI (a0_1.getD ((t22 - 1).toNat) (0, 0, 0)).2.1 (a0_1.getD t22.toNat (0, 0, 0)).2.1]))))))] [.row false (.trips a0_1), .rbox [.v (.int .i64 a0_0), .sl 0], .box [.v (.int .i64 ((a0_1.getD t22.toNat (0, 0, 0)).1)), .v (.int .i64 ((a0_1.getD t22.toNat (0, 0, 0)).2.1)), .v (.int .i64 ((a0_1.getD t22.toNat (0, 0, 0)).2.2))]] ?_ ?_
              · clear h
                intro K hK
                refine awp_quietg mixed ftCOk (by kernel_rfl) ?_
                simp (maxSteps := 4000000) only [go_sem, Nat.reduceBEq, Nat.reduceLT, Nat.reduceAdd, Nat.reduceLeDiff, Nat.reduceSub, Nat.reduceEqDiff, Int.reduceToNat, reduceCtorEq, ↓reduceIte]
                repeat' (first | refine And.intro ?_ ?_ | intro hg)
                all_goals (try simp (disch := omega) only [wrap_fits])
                all_goals first
                  | (refine hK _ _ ?_; exact Red.auto)
                  | exact trivial
                  | assumption
                  | omega
                  | exact wrap_fits (by omega) (by omega)
                  | (have hq := hp1 (by first | assumption | (simp only [*, Bool.false_or, Bool.true_or, Bool.or_false, Bool.or_true, Bool.false_and, Bool.true_and, Bool.and_false, Bool.and_true, Bool.not_true, Bool.not_false, beq_self_eq_true]; done) | (simp_all; done)); omega)
                  | (simp_all; done)
                  | (simp_all; omega)
              · clear hp0 hp1
                refine awp_cond (t := 66) rfl (fun hc113 => ?_) (fun hc113 => ?_)
                · replace h := bite_t h hc113
                  refine awp_reg ftCOk [(2, .v (.bool false))] [.row false (.trips a0_1), .rbox [.v (.int .i64 a0_0), .sl 0], .box [.v (.int .i64 ((a0_1.getD t22.toNat (0, 0, 0)).1)), .v (.int .i64 ((a0_1.getD t22.toNat (0, 0, 0)).2.1)), .v (.int .i64 ((a0_1.getD t22.toNat (0, 0, 0)).2.2))]] ?_
                  refine awp_ret ?_
                  (try simp only [Thn, InBlk, ↓reduceIte, Nat.reduceEqDiff])
                  obtain rfl := Option.some.inj h
                  refine LoopQ.out rfl ?_
                  exact Red.selA [0] Red.auto
                · replace h := bite_f h hc113
                  refine awp_skip ?_
                  (try simp only [Thn, InBlk, ↓reduceIte, Nat.reduceEqDiff])
                  (try simp only [Thn, InBlk, ↓reduceIte, Nat.reduceEqDiff])
                  refine hK106 _ _ ?_
                  clear hK106
                  replace h := chk_some h
                  obtain ⟨hp0, h⟩ := h
                  refine awp_regE ftCOk [(1, .pp 1 0), (20, .sl 0), (21, .v (.int .i64 (a0_1.length : Int))), (22, .v (.int .i64 (t22 + 1)))] [.row false (.trips a0_1), .rbox [.v (.int .i64 a0_0), .sl 0], .box [.v (.int .i64 ((a0_1.getD t22.toNat (0, 0, 0)).1)), .v (.int .i64 ((a0_1.getD t22.toNat (0, 0, 0)).2.1)), .v (.int .i64 ((a0_1.getD t22.toNat (0, 0, 0)).2.2))]] ?_
                  clear hp0
                  obtain rfl := Option.some.inj h
                  refine LoopQ.next ?_
                  exact Red.selA [0, 1] Red.auto
      · replace h := bite_f h hc98
        refine awp_exit ?_
        (try simp only [Thn, InBlk, ↓reduceIte, Nat.reduceEqDiff])
        obtain rfl := Option.some.inj h
        refine LoopQ.out rfl ?_
        exact Red.selA [0] Red.auto
    · clear hx
      rcases x114 with (⟨⟩ | ⟨⟩)
      · try dsimp only [Sum.elim_inl, Sum.elim_inr] at h
        try dsimp only [Sum.elim_inl, Sum.elim_inr]
        (try simp only [Thn, InBlk, ↓reduceIte, Nat.reduceEqDiff])
        (try simp only [Thn, InBlk, ↓reduceIte, Nat.reduceEqDiff])
        (try simp only [Thn, InBlk, ↓reduceIte, Nat.reduceEqDiff])
        refine hK59 _ _ ?_
        clear hK59
        refine awp_reg ftCOk [(2, .v (.bool true))] [.row false (.trips a0_1)] ?_
        refine awp_ret ?_
        (try simp only [Thn, InBlk, ↓reduceIte, Nat.reduceEqDiff])
        obtain rfl := Option.some.inj h
        refine ⟨by simp, _, [0], (by simp only [go_sem, Nat.reduceBEq, Nat.reduceLT, Nat.reduceAdd, Nat.reduceLeDiff, Nat.reduceSub, Nat.reduceEqDiff, Int.reduceToNat, reduceCtorEq, ↓reduceIte]; exact rfl), ?_, ?_, ?_, ?_⟩
        · first | exact trivial | exact ⟨trivial, trivial⟩ | exact ⟨trivial, trivial, trivial⟩ | exact ⟨trivial, trivial, trivial, trivial⟩ | (simp only [allP, and_true, true_and]; done) | (simp only [allP, and_true, true_and]; omega)
        · simp [selOk, pos]
        · simp
        · first | exact ⟨rfl, rfl⟩ | (simp only [go_sem, Nat.reduceBEq, Nat.reduceLT, Nat.reduceAdd, Nat.reduceLeDiff, Nat.reduceSub, Nat.reduceEqDiff, Int.reduceToNat, reduceCtorEq, ↓reduceIte]; done) | (simp [go_sem, Nat.reduceBEq, Nat.reduceLT, Nat.reduceAdd, Nat.reduceLeDiff, Nat.reduceSub, Nat.reduceEqDiff, Int.reduceToNat, reduceCtorEq, ↓reduceIte]; done) | (simp only [go_sem, Nat.reduceBEq, Nat.reduceLT, Nat.reduceAdd, Nat.reduceLeDiff, Nat.reduceSub, Nat.reduceEqDiff, Int.reduceToNat, reduceCtorEq, ↓reduceIte]; exact ⟨rfl, rfl⟩) | (simp_all [go_sem, Nat.reduceBEq, Nat.reduceLT, Nat.reduceAdd, Nat.reduceLeDiff, Nat.reduceSub, Nat.reduceEqDiff, Int.reduceToNat, reduceCtorEq, ↓reduceIte]; done)
      · try dsimp only [Sum.elim_inl, Sum.elim_inr] at h
        try dsimp only [Sum.elim_inl, Sum.elim_inr]
        (try simp only [Thn, InBlk, ↓reduceIte, Nat.reduceEqDiff])
        obtain rfl := Option.some.inj h
        refine ⟨by simp, _, [0], (by simp only [go_sem, Nat.reduceBEq, Nat.reduceLT, Nat.reduceAdd, Nat.reduceLeDiff, Nat.reduceSub, Nat.reduceEqDiff, Int.reduceToNat, reduceCtorEq, ↓reduceIte]; exact rfl), ?_, ?_, ?_, ?_⟩
        · first | exact trivial | exact ⟨trivial, trivial⟩ | exact ⟨trivial, trivial, trivial⟩ | exact ⟨trivial, trivial, trivial, trivial⟩ | (simp only [allP, and_true, true_and]; done) | (simp only [allP, and_true, true_and]; omega)
        · simp [selOk, pos]
        · simp
        · first | exact ⟨rfl, rfl⟩ | (simp only [go_sem, Nat.reduceBEq, Nat.reduceLT, Nat.reduceAdd, Nat.reduceLeDiff, Nat.reduceSub, Nat.reduceEqDiff, Int.reduceToNat, reduceCtorEq, ↓reduceIte]; done) | (simp [go_sem, Nat.reduceBEq, Nat.reduceLT, Nat.reduceAdd, Nat.reduceLeDiff, Nat.reduceSub, Nat.reduceEqDiff, Int.reduceToNat, reduceCtorEq, ↓reduceIte]; done) | (simp only [go_sem, Nat.reduceBEq, Nat.reduceLT, Nat.reduceAdd, Nat.reduceLeDiff, Nat.reduceSub, Nat.reduceEqDiff, Int.reduceToNat, reduceCtorEq, ↓reduceIte]; exact ⟨rfl, rfl⟩) | (simp_all [go_sem, Nat.reduceBEq, Nat.reduceLT, Nat.reduceAdd, Nat.reduceLeDiff, Nat.reduceSub, Nat.reduceEqDiff, Int.reduceToNat, reduceCtorEq, ↓reduceIte]; done)
theorem k_slices_Clone_impl_Edge_impl_Edge (a0 : List (Int × Int × Int)) {r : (List (Int × Int × Int))} (h : slices_Clone_impl_Edge_impl_Edge a0 = some r) :
    FnA Try.prog 56 [.sl 0] [.row false (.trips a0)] [] (fun x H => x = .sl 1 ∧ H = [.row false (.trips a0), .row true (.trips r)]) := by
  unfold slices_Clone_impl_Edge_impl_Edge at h
  refine FnA.of (N := 8) (pin := [0]) (rs := [.tmp 2]) Try.func56 rfl en56 rfl rfl (by simp) (by simp; try omega) ?_
  refine awp_reg ftCOk [(0, .sl 0)] [.row false (.trips a0)] ?_
  refine awp_seq fun K2 hK2 => ?_
  have hboth := both_some h
  refine awp_isnil (by rfl) (by rfl) Try.underlying23 rfl rfl fun b hb => ?_
  replace h := hboth b hb
  clear hboth
  refine awp_cond (t := 4) rfl (fun hc3 => ?_) (fun hc3 => ?_)
  · replace h := bite_t h hc3
    refine awp_reg ftCOk [(2, .v (.slice none 0 0))] [.row false (.trips a0)] ?_
    refine awp_red (Red.nil (t := 2) (.trips []) rfl rfl) ?_
    refine awp_ret ?_
    (try simp only [Thn, InBlk, ↓reduceIte, Nat.reduceEqDiff])
    obtain rfl := Option.some.inj h
    refine ⟨by simp, _, [0, 1], (by simp only [go_sem, Nat.reduceBEq, Nat.reduceLT, Nat.reduceAdd, Nat.reduceLeDiff, Nat.reduceSub, Nat.reduceEqDiff, Int.reduceToNat, reduceCtorEq, ↓reduceIte]; exact rfl), ?_, ?_, ?_, ?_⟩
    · first | exact trivial | exact ⟨trivial, trivial⟩ | exact ⟨trivial, trivial, trivial⟩ | exact ⟨trivial, trivial, trivial, trivial⟩ | (simp only [allP, and_true, true_and]; done) | (simp only [allP, and_true, true_and]; omega)
    · simp [selOk, pos]
    · simp
    · first | exact ⟨rfl, rfl⟩ | (simp only [go_sem, Nat.reduceBEq, Nat.reduceLT, Nat.reduceAdd, Nat.reduceLeDiff, Nat.reduceSub, Nat.reduceEqDiff, Int.reduceToNat, reduceCtorEq, ↓reduceIte]; done) | (simp [go_sem, Nat.reduceBEq, Nat.reduceLT, Nat.reduceAdd, Nat.reduceLeDiff, Nat.reduceSub, Nat.reduceEqDiff, Int.reduceToNat, reduceCtorEq, ↓reduceIte]; done) | (simp only [go_sem, Nat.reduceBEq, Nat.reduceLT, Nat.reduceAdd, Nat.reduceLeDiff, Nat.reduceSub, Nat.reduceEqDiff, Int.reduceToNat, reduceCtorEq, ↓reduceIte]; exact ⟨rfl, rfl⟩) | (simp_all [go_sem, Nat.reduceBEq, Nat.reduceLT, Nat.reduceAdd, Nat.reduceLeDiff, Nat.reduceSub, Nat.reduceEqDiff, Int.reduceToNat, reduceCtorEq, ↓reduceIte]; done)
  · replace h := bite_f h hc3
    refine awp_skip ?_
    (try simp only [Thn, InBlk, ↓reduceIte, Nat.reduceEqDiff])
    refine hK2 _ _ ?_
    clear hK2
    replace h := chk_some h
    obtain ⟨hp0, h⟩ := h
    refine awp_reg ftCOk [(2, .sl 1)] [.row false (.trips a0), .row true (.trips ([] ++ a0))] ?_
    clear hp0
    refine awp_ret ?_
    (try simp only [Thn, InBlk, ↓reduceIte, Nat.reduceEqDiff])
    obtain rfl := Option.some.inj h
    refine ⟨by simp, _, [0, 1], (by simp only [go_sem, Nat.reduceBEq, Nat.reduceLT, Nat.reduceAdd, Nat.reduceLeDiff, Nat.reduceSub, Nat.reduceEqDiff, Int.reduceToNat, reduceCtorEq, ↓reduceIte]; exact rfl), ?_, ?_, ?_, ?_⟩
    · first | exact trivial | exact ⟨trivial, trivial⟩ | exact ⟨trivial, trivial, trivial⟩ | exact ⟨trivial, trivial, trivial, trivial⟩ | (simp only [allP, and_true, true_and]; done) | (simp only [allP, and_true, true_and]; omega)
    · simp [selOk, pos]
    · simp
    · first | exact ⟨rfl, rfl⟩ | (simp only [go_sem, Nat.reduceBEq, Nat.reduceLT, Nat.reduceAdd, Nat.reduceLeDiff, Nat.reduceSub, Nat.reduceEqDiff, Int.reduceToNat, reduceCtorEq, ↓reduceIte]; done) | (simp [go_sem, Nat.reduceBEq, Nat.reduceLT, Nat.reduceAdd, Nat.reduceLeDiff, Nat.reduceSub, Nat.reduceEqDiff, Int.reduceToNat, reduceCtorEq, ↓reduceIte]; done) | (simp only [go_sem, Nat.reduceBEq, Nat.reduceLT, Nat.reduceAdd, Nat.reduceLeDiff, Nat.reduceSub, Nat.reduceEqDiff, Int.reduceToNat, reduceCtorEq, ↓reduceIte]; exact ⟨rfl, rfl⟩) | (simp_all [go_sem, Nat.reduceBEq, Nat.reduceLT, Nat.reduceAdd, Nat.reduceLeDiff, Nat.reduceSub, Nat.reduceEqDiff, Int.reduceToNat, reduceCtorEq, ↓reduceIte]; done)
theorem k_impl_Graph_copied (a0_0 : Int) (a0_1 : List (Int × Int × Int)) {r : Int × (List (Int × Int × Int))} (h : impl_Graph_copied a0_0 a0_1 = some r) :
    FnA Try.prog 49 [.agg [.v (.int .i64 a0_0), .sl 0]] [.row false (.trips a0_1)] [] (fun x H => x = .agg [.v (.int .i64 r.1), .sl 1] ∧ H = [.row false (.trips a0_1), .row true (.trips r.2)]) := by
  unfold impl_Graph_copied at h
  refine FnA.of (N := 9) (pin := [0]) (rs := [.cell 2 25]) Try.func49 rfl en49 rfl rfl (by simp) (by simp; try omega) ?_
  refine awp_reg ftCOk [(1, .pp 1 0), (2, .pp 2 0)] [.row false (.trips a0_1), .box [.v (.int .i64 a0_0), .sl 0], .box [.v (.int .i64 0), .v (.slice none 0 0)]] ?_
  refine awp_freeze 1 (by rfl) (by rfl) (by exact rfl) ?_
  replace h := bind_some h
  obtain ⟨y, hr0, h⟩ := h
  try dsimp only at h
  refine awp_to [(2, .pp 2 0)] [.row false (.trips a0_1), .rbox [.v (.int .i64 a0_0), .sl 0], .box [.v (.int .i64 a0_0), .sl 3], .row true (.trips y)] ?_ ?_
  · clear h
    intro K hK
    refine awp_drawT mixed ftCOk (.free 0 (.free 2 (.free 1 (.one 3 (.one 4 (.one 5 (.one 6 .fin))))))) (by kernel_rfl) (by simp) ?_
    simp (maxSteps := 4000000) only [go_sem, Nat.reduceBEq, Nat.reduceLT, Nat.reduceAdd, Nat.reduceLeDiff, Nat.reduceSub, Nat.reduceEqDiff, Int.reduceToNat, reduceCtorEq, ↓reduceIte]
    repeat' (first | refine And.intro ?_ ?_ | intro hg)
    all_goals (try simp (disch := omega) only [wrap_fits])
    all_goals first
      | (refine hK _ _ ?_; exact Red.auto)
      | exact trivial
      | assumption
      | omega
      | exact wrap_fits (by omega) (by omega)
      | (refine OpK_callA (k_slices_Clone_impl_Edge_impl_Edge a0_1 (h := hr0)) [0] [] ?_
         rintro x Hc' ⟨rfl, rfl⟩ hlen
         simp (maxSteps := 4000000) only [go_sem, Nat.reduceBEq, Nat.reduceLT, Nat.reduceAdd, Nat.reduceLeDiff, Nat.reduceSub, Nat.reduceEqDiff, Int.reduceToNat, reduceCtorEq, ↓reduceIte]
         repeat' (first | refine And.intro ?_ ?_ | intro hg)
         all_goals (try simp (disch := omega) only [wrap_fits])
         all_goals first
           | (refine hK _ _ ?_; exact Red.auto)
           | exact trivial
           | assumption
           | omega
           | exact wrap_fits (by omega) (by omega)
           | (simp (maxSteps := 4000000) only [go_sem, Nat.reduceBEq, Nat.reduceLT, Nat.reduceAdd, Nat.reduceLeDiff, Nat.reduceSub, Nat.reduceEqDiff, Int.reduceToNat, reduceCtorEq, ↓reduceIte]
              repeat' (first | refine And.intro ?_ ?_ | intro hg)
              all_goals (try simp (disch := omega) only [wrap_fits])
              all_goals first | (refine hK _ _ ?_; exact Red.auto) | exact trivial | assumption | omega | exact wrap_fits (by omega) (by omega))
           | (simp_all; done)
           | (simp_all; omega))
      | (simp_all; done)
      | (simp_all; omega)
  · clear hr0
    refine awp_ret ?_
    (try simp only [Thn, InBlk, ↓reduceIte, Nat.reduceEqDiff])
    obtain rfl := Option.some.inj h
    refine ⟨by simp, _, [0, 3], (by simp only [go_sem, Nat.reduceBEq, Nat.reduceLT, Nat.reduceAdd, Nat.reduceLeDiff, Nat.reduceSub, Nat.reduceEqDiff, Int.reduceToNat, reduceCtorEq, ↓reduceIte]; exact rfl), ?_, ?_, ?_, ?_⟩
    · first | exact trivial | exact ⟨trivial, trivial⟩ | exact ⟨trivial, trivial, trivial⟩ | exact ⟨trivial, trivial, trivial, trivial⟩ | (simp only [allP, and_true, true_and]; done) | (simp only [allP, and_true, true_and]; omega)
    · simp [selOk, pos]
    · simp
    · first | exact ⟨rfl, rfl⟩ | (simp only [go_sem, Nat.reduceBEq, Nat.reduceLT, Nat.reduceAdd, Nat.reduceLeDiff, Nat.reduceSub, Nat.reduceEqDiff, Int.reduceToNat, reduceCtorEq, ↓reduceIte]; done) | (simp [go_sem, Nat.reduceBEq, Nat.reduceLT, Nat.reduceAdd, Nat.reduceLeDiff, Nat.reduceSub, Nat.reduceEqDiff, Int.reduceToNat, reduceCtorEq, ↓reduceIte]; done) | (simp only [go_sem, Nat.reduceBEq, Nat.reduceLT, Nat.reduceAdd, Nat.reduceLeDiff, Nat.reduceSub, Nat.reduceEqDiff, Int.reduceToNat, reduceCtorEq, ↓reduceIte]; exact ⟨rfl, rfl⟩) | (simp_all [go_sem, Nat.reduceBEq, Nat.reduceLT, Nat.reduceAdd, Nat.reduceLeDiff, Nat.reduceSub, Nat.reduceEqDiff, Int.reduceToNat, reduceCtorEq, ↓reduceIte]; done)
theorem k_slices_BinarySearchFunc_impl_Edge_impl_Edge_impl_Edge__impl_compareEnds (a0 : List (Int × Int × Int)) (a1_0 : Int) (a1_1 : Int) (a1_2 : Int) {r : Int × Bool} (h : slices_BinarySearchFunc_impl_Edge_impl_Edge_impl_Edge__impl_compareEnds a0 a1_0 a1_1 a1_2 = some r) :
    FnA Try.prog 48 [.sl 0, .agg [.v (.int .i64 a1_0), .v (.int .i64 a1_1), .v (.int .i64 a1_2)], .v (.func (.func 37) #[] #[])] [.row false (.trips a0)] [] (fun x H => x = .tup [.v (.int .i64 r.1), .v (.bool r.2)] ∧ H = [.row false (.trips a0)]) := by
  unfold slices_BinarySearchFunc_impl_Edge_impl_Edge_impl_Edge__impl_compareEnds at h
  refine FnA.of (N := 49) (pin := [0]) (rs := [.tmp 6, .tmp 7]) Try.func48 rfl en48 rfl rfl (by simp) (by simp; try omega) ?_
  refine awp_reg ftCOk [(0, .sl 0), (2, .v (.func (.func 37) #[] #[])), (4, .pp 1 0)] [.row false (.trips a0), .box [.v (.int .i64 a1_0), .v (.int .i64 a1_1), .v (.int .i64 a1_2)]] ?_
  refine awp_freeze 4 (by rfl) (by rfl) (by exact rfl) ?_
  refine awp_reg ftCOk [(0, .sl 0), (2, .v (.func (.func 37) #[] #[])), (4, .pp 1 0), (8, .v (.int .i64 (a0.length : Int)))] [.row false (.trips a0), .rbox [.v (.int .i64 a1_0), .v (.int .i64 a1_1), .v (.int .i64 a1_2)]] ?_
  refine awp_reg ftCOk [(0, .sl 0), (2, .v (.func (.func 37) #[] #[])), (4, .pp 1 0), (8, .v (.int .i64 (a0.length : Int))), (9, .v (.int .i64 0)), (10, .v (.int .i64 (a0.length : Int)))] [.row false (.trips a0), .rbox [.v (.int .i64 a1_0), .v (.int .i64 a1_1), .v (.int .i64 a1_2)]] ?_
  refine awp_seq fun K14 hK14 => ?_
  refine awp_block ?_
  replace h := bind_some h
  obtain ⟨t9_1, hx, h⟩ := h
  refine awp_loopL hx (fun ((t9, t10) : Int × Int) => [(0, .sl 0), (2, .v (.func (.func 37) #[] #[])), (4, .pp 1 0), (8, .v (.int .i64 (a0.length : Int))), (9, .v (.int .i64 t9)), (10, .v (.int .i64 t10))]) (fun ((t9, t10) : Int × Int) => [.row false (.trips a0), .rbox [.v (.int .i64 a1_0), .v (.int .i64 a1_1), .v (.int .i64 a1_2)]]) (fun (t9_1 : Int) => Exit.exit 0) (fun (t9_1 : Int) => [(0, .sl 0), (2, .v (.func (.func 37) #[] #[])), (4, .pp 1 0), (8, .v (.int .i64 (a0.length : Int))), (9, .v (.int .i64 t9_1))]) (fun (t9_1 : Int) => [.row false (.trips a0), .rbox [.v (.int .i64 a1_0), .v (.int .i64 a1_1), .v (.int .i64 a1_2)]]) ?_ ?_ ?_ ?_
  · rintro t9_1 hy <;> cases hy
  · clear h hx
    exact Red.auto
  · clear h hx
    rintro ⟨t9, t10⟩ r h
    unfold slices_BinarySearchFunc_impl_Edge_impl_Edge_impl_Edge__impl_compareEnds_b0 at h
    try dsimp only at h
    try dsimp only
    refine awp_seq fun K24 hK24 => ?_
    refine awp_reg ftCOk [(0, .sl 0), (2, .v (.func (.func 37) #[] #[])), (4, .pp 1 0), (8, .v (.int .i64 (a0.length : Int))), (9, .v (.int .i64 t9)), (10, .v (.int .i64 t10)), (17, .v (.bool (decide (t9 < t10))))] [.row false (.trips a0), .rbox [.v (.int .i64 a1_0), .v (.int .i64 a1_1), .v (.int .i64 a1_2)]] ?_
    refine awp_cond (t := 17) rfl (fun hc25 => ?_) (fun hc25 => ?_)
    · replace h := bite_t h hc25
      refine awp_skip ?_
      (try simp only [Thn, InBlk, ↓reduceIte, Nat.reduceEqDiff])
      refine hK24 _ _ ?_
      clear hK24
      refine awp_block ?_
      replace h := chk_some h
      obtain ⟨hp0, h⟩ := h
      replace h := chk_some h
      obtain ⟨hp1, h⟩ := h
      refine awp_reg ftCOk [(0, .sl 0), (2, .v (.func (.func 37) #[] #[])), (4, .pp 1 0), (8, .v (.int .i64 (a0.length : Int))), (9, .v (.int .i64 t9)), (10, .v (.int .i64 t10)), (11, .v (.int .i64 ((IntKind.u64.wrap (t9 + t10)).fdiv 2)))] [.row false (.trips a0), .rbox [.v (.int .i64 a1_0), .v (.int .i64 a1_1), .v (.int .i64 a1_2)]] ?_
      clear hp0 hp1
      replace h := chk_some h
      obtain ⟨hp0, h⟩ := h
      refine awp_regQ mixed ftCOk [(0, .sl 0), (2, .v (.func (.func 37) #[] #[])), (4, .pp 1 0), (8, .v (.int .i64 (a0.length : Int))), (9, .v (.int .i64 t9)), (10, .v (.int .i64 t10)), (11, .v (.int .i64 ((IntKind.u64.wrap (t9 + t10)).fdiv 2))), (31, .v (.bool (decide ((orF [cmpI (a0.getD (((IntKind.u64.wrap (t9 + t10)).fdiv 2).toNat) (0, 0, 0)).1 a1_0, cmpI (a0.getD (((IntKind.u64.wrap (t9 + t10)).fdiv 2).toNat) (0, 0, 0)).2.1 a1_1]) < 0))))] [.row false (.trips a0), .rbox [.v (.int .i64 a1_0), .v (.int .i64 a1_1), .v (.int .i64 a1_2)]] ?_
      clear hp0
      refine awp_cond (t := 31) rfl (fun hc26 => ?_) (fun hc26 => ?_)
      · replace h := bite_t h hc26
        replace h := chk_some h
        obtain ⟨hp0, h⟩ := h
        refine awp_regE ftCOk [(0, .sl 0), (2, .v (.func (.func 37) #[] #[])), (4, .pp 1 0), (8, .v (.int .i64 (a0.length : Int))), (9, .v (.int .i64 (((IntKind.u64.wrap (t9 + t10)).fdiv 2) + 1))), (10, .v (.int .i64 t10))] [.row false (.trips a0), .rbox [.v (.int .i64 a1_0), .v (.int .i64 a1_1), .v (.int .i64 a1_2)]] ?_
        clear hp0
        (try simp only [Thn, InBlk, ↓reduceIte, Nat.reduceEqDiff])
        obtain rfl := Option.some.inj h
        refine LoopQ.next ?_
        exact Red.auto
      · replace h := bite_f h hc26
        refine awp_regE ftCOk [(0, .sl 0), (2, .v (.func (.func 37) #[] #[])), (4, .pp 1 0), (8, .v (.int .i64 (a0.length : Int))), (9, .v (.int .i64 t9)), (10, .v (.int .i64 ((IntKind.u64.wrap (t9 + t10)).fdiv 2)))] [.row false (.trips a0), .rbox [.v (.int .i64 a1_0), .v (.int .i64 a1_1), .v (.int .i64 a1_2)]] ?_
        (try simp only [Thn, InBlk, ↓reduceIte, Nat.reduceEqDiff])
        obtain rfl := Option.some.inj h
        refine LoopQ.next ?_
        exact Red.auto
    · replace h := bite_f h hc25
      refine awp_exit ?_
      (try simp only [Thn, InBlk, ↓reduceIte, Nat.reduceEqDiff])
      obtain rfl := Option.some.inj h
      refine LoopQ.out rfl ?_
      exact Red.auto
  · clear hx
    skip
    · try dsimp only [Sum.elim_inl, Sum.elim_inr] at h
      try dsimp only [Sum.elim_inl, Sum.elim_inr]
      (try simp only [Thn, InBlk, ↓reduceIte, Nat.reduceEqDiff])
      (try simp only [Thn, InBlk, ↓reduceIte, Nat.reduceEqDiff])
      (try simp only [Thn, InBlk, ↓reduceIte, Nat.reduceEqDiff])
      refine hK14 _ _ ?_
      clear hK14
      replace h := chk_some h
      obtain ⟨hp0, h⟩ := h
      refine awp_to [(6, .v (.int .i64 t9_1)), (7, .v (.bool ((decide (t9_1 < (a0.length : Int))) && ((orF [cmpI (a0.getD t9_1.toNat (0, 0, 0)).1 a1_0, cmpI (a0.getD t9_1.toNat (0, 0, 0)).2.1 a1_1]) == 0))))] [.row false (.trips a0), .rbox [.v (.int .i64 a1_0), .v (.int .i64 a1_1), .v (.int .i64 a1_2)]] ?_ ?_
      · clear h
        intro K hK
        refine awp_quietg mixed ftCOk (by kernel_rfl) ?_
        simp (maxSteps := 4000000) only [go_sem, Nat.reduceBEq, Nat.reduceLT, Nat.reduceAdd, Nat.reduceLeDiff, Nat.reduceSub, Nat.reduceEqDiff, Int.reduceToNat, reduceCtorEq, ↓reduceIte]
        repeat' (first | refine And.intro ?_ ?_ | intro hg)
        all_goals (try simp (disch := omega) only [wrap_fits])
        all_goals first
          | (refine hK _ _ ?_; exact Red.auto)
          | exact trivial
          | assumption
          | omega
          | exact wrap_fits (by omega) (by omega)
          | (have hq := hp0 (by first | assumption | (simp only [*, Bool.false_or, Bool.true_or, Bool.or_false, Bool.or_true, Bool.false_and, Bool.true_and, Bool.and_false, Bool.and_true, Bool.not_true, Bool.not_false, beq_self_eq_true]; done) | (simp_all; done)); omega)
          | (simp_all; done)
          | (simp_all; omega)
      · clear hp0
        refine awp_ret ?_
        (try simp only [Thn, InBlk, ↓reduceIte, Nat.reduceEqDiff])
        obtain rfl := Option.some.inj h
        refine ⟨by simp, _, [0], (by simp only [go_sem, Nat.reduceBEq, Nat.reduceLT, Nat.reduceAdd, Nat.reduceLeDiff, Nat.reduceSub, Nat.reduceEqDiff, Int.reduceToNat, reduceCtorEq, ↓reduceIte]; exact rfl), ?_, ?_, ?_, ?_⟩
        · first | exact trivial | exact ⟨trivial, trivial⟩ | exact ⟨trivial, trivial, trivial⟩ | exact ⟨trivial, trivial, trivial, trivial⟩ | (simp only [allP, and_true, true_and]; done) | (simp only [allP, and_true, true_and]; omega)
        · simp [selOk, pos]
        · simp
        · first | exact ⟨rfl, rfl⟩ | (simp only [go_sem, Nat.reduceBEq, Nat.reduceLT, Nat.reduceAdd, Nat.reduceLeDiff, Nat.reduceSub, Nat.reduceEqDiff, Int.reduceToNat, reduceCtorEq, ↓reduceIte]; done) | (simp [go_sem, Nat.reduceBEq, Nat.reduceLT, Nat.reduceAdd, Nat.reduceLeDiff, Nat.reduceSub, Nat.reduceEqDiff, Int.reduceToNat, reduceCtorEq, ↓reduceIte]; done) | (simp only [go_sem, Nat.reduceBEq, Nat.reduceLT, Nat.reduceAdd, Nat.reduceLeDiff, Nat.reduceSub, Nat.reduceEqDiff, Int.reduceToNat, reduceCtorEq, ↓reduceIte]; exact ⟨rfl, rfl⟩) | (simp_all [go_sem, Nat.reduceBEq, Nat.reduceLT, Nat.reduceAdd, Nat.reduceLeDiff, Nat.reduceSub, Nat.reduceEqDiff, Int.reduceToNat, reduceCtorEq, ↓reduceIte]; done)
theorem k_impl_AddEdge (a0_0 : Int) (a0_1 : List (Int × Int × Int)) (a1_0 : Int) (a1_1 : Int) (a1_2 : Int) {r : Int × (List (Int × Int × Int)) × Bool} (h : impl_AddEdge a0_0 a0_1 a1_0 a1_1 a1_2 = some r) :
    FnA Try.prog 35 [.agg [.v (.int .i64 a0_0), .sl 0], .agg [.v (.int .i64 a1_0), .v (.int .i64 a1_1), .v (.int .i64 a1_2)]] [.row false (.trips a0_1)] [] (fun x H => x = .tup [.agg [.v (.int .i64 r.1), .sl 1], .v (.bool r.2.2)] ∧ H = [.row false (.trips a0_1), .row true (.trips r.2.1)]) := by
  unfold impl_AddEdge at h
  refine FnA.of (N := 41) (pin := [0]) (rs := [.cell 4 25, .tmp 5]) Try.func35 rfl en35 rfl rfl (by simp) (by simp; try omega) ?_
  refine awp_reg ftCOk [(2, .pp 1 0), (3, .pp 2 0), (4, .pp 3 0)] [.row false (.trips a0_1), .box [.v (.int .i64 a0_0), .sl 0], .box [.v (.int .i64 a1_0), .v (.int .i64 a1_1), .v (.int .i64 a1_2)], .box [.v (.int .i64 0), .v (.slice none 0 0)]] ?_
  refine awp_freeze 2 (by rfl) (by rfl) (by exact rfl) ?_
  refine awp_freeze 3 (by rfl) (by rfl) (by exact rfl) ?_
  refine awp_seq fun K2 hK2 => ?_
  replace h := bind_some h
  obtain ⟨y, hr0, h⟩ := h
  try dsimp only at h
  refine awp_to [(2, .pp 1 0), (3, .pp 2 0), (4, .pp 3 0), (11, .v (.bool (!y)))] [.row false (.trips a0_1), .rbox [.v (.int .i64 a0_0), .sl 0], .rbox [.v (.int .i64 a1_0), .v (.int .i64 a1_1), .v (.int .i64 a1_2)], .box [.v (.int .i64 0), .v (.slice none 0 0)]] ?_ ?_
  · clear h
    intro K hK
    refine awp_region ftCOk ?_
    simp (maxSteps := 4000000) only [go_sem, Nat.reduceBEq, Nat.reduceLT, Nat.reduceAdd, Nat.reduceLeDiff, Nat.reduceSub, Nat.reduceEqDiff, Int.reduceToNat, reduceCtorEq, ↓reduceIte]
    repeat' (first | refine And.intro ?_ ?_ | intro hg)
    all_goals (try simp (disch := omega) only [wrap_fits])
    all_goals first
      | (refine hK _ _ ?_; exact Red.auto)
      | exact trivial
      | assumption
      | omega
      | exact wrap_fits (by omega) (by omega)
      | (refine wpA_callA (k_impl_GraphValid a0_0 a0_1 (h := hr0)) [0] [] ?_
         rintro x Hc' ⟨rfl, rfl⟩ hlen
         refine vcOps_sound ftCOk ?_
         simp (maxSteps := 4000000) only [go_sem, Nat.reduceBEq, Nat.reduceLT, Nat.reduceAdd, Nat.reduceLeDiff, Nat.reduceSub, Nat.reduceEqDiff, Int.reduceToNat, reduceCtorEq, ↓reduceIte]
         repeat' (first | refine And.intro ?_ ?_ | intro hg)
         all_goals (try simp (disch := omega) only [wrap_fits])
         all_goals first
           | (refine hK _ _ ?_; exact Red.auto)
           | exact trivial
           | assumption
           | omega
           | exact wrap_fits (by omega) (by omega)
           | (simp_all; done)
           | (simp_all; omega))
      | (simp_all; done)
      | (simp_all; omega)
  · clear hr0
    refine awp_cond (t := 11) rfl (fun hc3 => ?_) (fun hc3 => ?_)
    · replace h := bite_t h hc3
      refine awp_reg ftCOk [(4, .pp 3 0), (5, .v (.bool false))] [.row false (.trips a0_1), .rbox [.v (.int .i64 a0_0), .sl 0], .rbox [.v (.int .i64 a1_0), .v (.int .i64 a1_1), .v (.int .i64 a1_2)], .box [.v (.int .i64 0), .v (.slice none 0 0)]] ?_
      refine awp_red (Red.nilCell (o := 3) (i := 1) (.trips []) rfl rfl rfl) ?_
      refine awp_ret ?_
      (try simp only [Thn, InBlk, ↓reduceIte, Nat.reduceEqDiff])
      obtain rfl := Option.some.inj h
      refine ⟨by simp, _, [0, 4], (by simp only [go_sem, Nat.reduceBEq, Nat.reduceLT, Nat.reduceAdd, Nat.reduceLeDiff, Nat.reduceSub, Nat.reduceEqDiff, Int.reduceToNat, reduceCtorEq, ↓reduceIte]; exact rfl), ?_, ?_, ?_, ?_⟩
      · first | exact trivial | exact ⟨trivial, trivial⟩ | exact ⟨trivial, trivial, trivial⟩ | exact ⟨trivial, trivial, trivial, trivial⟩ | (simp only [allP, and_true, true_and]; done) | (simp only [allP, and_true, true_and]; omega)
      · simp [selOk, pos]
      · simp
      · first | exact ⟨rfl, rfl⟩ | (simp only [go_sem, Nat.reduceBEq, Nat.reduceLT, Nat.reduceAdd, Nat.reduceLeDiff, Nat.reduceSub, Nat.reduceEqDiff, Int.reduceToNat, reduceCtorEq, ↓reduceIte]; done) | (simp [go_sem, Nat.reduceBEq, Nat.reduceLT, Nat.reduceAdd, Nat.reduceLeDiff, Nat.reduceSub, Nat.reduceEqDiff, Int.reduceToNat, reduceCtorEq, ↓reduceIte]; done) | (simp only [go_sem, Nat.reduceBEq, Nat.reduceLT, Nat.reduceAdd, Nat.reduceLeDiff, Nat.reduceSub, Nat.reduceEqDiff, Int.reduceToNat, reduceCtorEq, ↓reduceIte]; exact ⟨rfl, rfl⟩) | (simp_all [go_sem, Nat.reduceBEq, Nat.reduceLT, Nat.reduceAdd, Nat.reduceLeDiff, Nat.reduceSub, Nat.reduceEqDiff, Int.reduceToNat, reduceCtorEq, ↓reduceIte]; done)
    · replace h := bite_f h hc3
      refine awp_skip ?_
      (try simp only [Thn, InBlk, ↓reduceIte, Nat.reduceEqDiff])
      refine hK2 _ _ ?_
      clear hK2
      replace h := bind_some h
      obtain ⟨⟨y_1, y_2⟩, hr0, h⟩ := h
      try dsimp only at h
      refine awp_to [(2, .pp 1 0), (3, .pp 2 0), (4, .pp 3 0), (6, .v (.int .i64 y_1)), (7, .v (.bool y_2))] [.row false (.trips a0_1), .rbox [.v (.int .i64 a0_0), .sl 0], .rbox [.v (.int .i64 a1_0), .v (.int .i64 a1_1), .v (.int .i64 a1_2)], .box [.v (.int .i64 0), .v (.slice none 0 0)]] ?_ ?_
      · clear h
        intro K hK
        refine awp_region ftCOk ?_
        simp (maxSteps := 4000000) only [go_sem, Nat.reduceBEq, Nat.reduceLT, Nat.reduceAdd, Nat.reduceLeDiff, Nat.reduceSub, Nat.reduceEqDiff, Int.reduceToNat, reduceCtorEq, ↓reduceIte]
        repeat' (first | refine And.intro ?_ ?_ | intro hg)
        all_goals (try simp (disch := omega) only [wrap_fits])
        all_goals first
          | (refine hK _ _ ?_; exact Red.auto)
          | exact trivial
          | assumption
          | omega
          | exact wrap_fits (by omega) (by omega)
          | (refine wpA_callA (k_slices_BinarySearchFunc_impl_Edge_impl_Edge_impl_Edge__impl_compareEnds a0_1 a1_0 a1_1 a1_2 (h := hr0)) [0] [] ?_
             rintro x Hc' ⟨rfl, rfl⟩ hlen
             refine vcOps_sound ftCOk ?_
             simp (maxSteps := 4000000) only [go_sem, Nat.reduceBEq, Nat.reduceLT, Nat.reduceAdd, Nat.reduceLeDiff, Nat.reduceSub, Nat.reduceEqDiff, Int.reduceToNat, reduceCtorEq, ↓reduceIte]
             repeat' (first | refine And.intro ?_ ?_ | intro hg)
             all_goals (try simp (disch := omega) only [wrap_fits])
             all_goals first
               | (refine hK _ _ ?_; exact Red.auto)
               | exact trivial
               | assumption
               | omega
               | exact wrap_fits (by omega) (by omega)
               | (simp_all; done)
               | (simp_all; omega))
          | (simp_all; done)
          | (simp_all; omega)
      · clear hr0
        replace h := bind_some h
        obtain ⟨⟨y_3, y_4⟩, hr0, h⟩ := h
        try dsimp only at h
        refine awp_to [(2, .pp 1 0), (3, .pp 2 0), (4, .pp 3 0), (6, .v (.int .i64 y_1)), (7, .v (.bool y_2)), (8, .pp 5 0)] [.row false (.trips a0_1), .rbox [.v (.int .i64 a0_0), .sl 0], .rbox [.v (.int .i64 a1_0), .v (.int .i64 a1_1), .v (.int .i64 a1_2)], .box [.v (.int .i64 0), .v (.slice none 0 0)], .row true (.trips y_4), .box [.v (.int .i64 y_3), .sl 4]] ?_ ?_
        · clear h
          intro K hK
          refine awp_region ftCOk ?_
          simp (maxSteps := 4000000) only [go_sem, Nat.reduceBEq, Nat.reduceLT, Nat.reduceAdd, Nat.reduceLeDiff, Nat.reduceSub, Nat.reduceEqDiff, Int.reduceToNat, reduceCtorEq, ↓reduceIte]
          repeat' (first | refine And.intro ?_ ?_ | intro hg)
          all_goals (try simp (disch := omega) only [wrap_fits])
          all_goals first
            | (refine hK _ _ ?_; exact Red.auto)
            | exact trivial
            | assumption
            | omega
            | exact wrap_fits (by omega) (by omega)
            | (refine wpA_callA (k_impl_Graph_copied a0_0 a0_1 (h := hr0)) [0] [] ?_
               rintro x Hc' ⟨rfl, rfl⟩ hlen
               refine vcOps_sound ftCOk ?_
               simp (maxSteps := 4000000) only [go_sem, Nat.reduceBEq, Nat.reduceLT, Nat.reduceAdd, Nat.reduceLeDiff, Nat.reduceSub, Nat.reduceEqDiff, Int.reduceToNat, reduceCtorEq, ↓reduceIte]
               repeat' (first | refine And.intro ?_ ?_ | intro hg)
               all_goals (try simp (disch := omega) only [wrap_fits])
               all_goals first
                 | (refine hK _ _ ?_; exact Red.auto)
                 | exact trivial
                 | assumption
                 | omega
                 | exact wrap_fits (by omega) (by omega)
                 | (simp_all; done)
                 | (simp_all; omega))
            | (simp_all; done)
            | (simp_all; omega)
        · clear hr0
          refine awp_join h (fun (t8_1s : List (Int × Int × Int)) => [(2, .pp 1 0), (4, .pp 2 0), (8, .pp 3 0)]) (fun (t8_1s : List (Int × Int × Int)) => [.row false (.trips a0_1), .rbox [.v (.int .i64 a0_0), .sl 0], .box [.v (.int .i64 0), .v (.slice none 0 0)], .box [.v (.int .i64 y_3), .sl 4], .row true (.trips t8_1s)]) ?_ ?_
          · clear h
            intro k h
            try dsimp only at h
            refine awp_reg ftCOk [(2, .pp 1 0), (3, .pp 2 0), (4, .pp 3 0), (6, .v (.int .i64 y_1)), (8, .pp 5 0), (22, .v (.bool y_2))] [.row false (.trips a0_1), .rbox [.v (.int .i64 a0_0), .sl 0], .rbox [.v (.int .i64 a1_0), .v (.int .i64 a1_1), .v (.int .i64 a1_2)], .box [.v (.int .i64 0), .v (.slice none 0 0)], .row true (.trips y_4), .box [.v (.int .i64 y_3), .sl 4]] ?_
            refine awp_cond (t := 22) rfl (fun hc5 => ?_) (fun hc5 => ?_)
            · replace h := bite_t h hc5
              replace h := chk_some h
              obtain ⟨hp0, h⟩ := h
              refine awp_regE ftCOk [(2, .pp 1 0), (4, .pp 3 0), (8, .pp 5 0)] [.row false (.trips a0_1), .rbox [.v (.int .i64 a0_0), .sl 0], .rbox [.v (.int .i64 a1_0), .v (.int .i64 a1_1), .v (.int .i64 a1_2)], .box [.v (.int .i64 0), .v (.slice none 0 0)], .row true (.trips (y_4.set y_1.toNat (a1_0, a1_1, a1_2))), .box [.v (.int .i64 y_3), .sl 4]] ?_
              clear hp0
              (try simp only [Thn, InBlk, ↓reduceIte, Nat.reduceEqDiff])
              refine ⟨_, h, ?_⟩
              exact Red.selA [0, 1, 3, 5, 4] Red.auto
            · replace h := bite_f h hc5
              replace h := bind_some h
              obtain ⟨y_5, hr0, h⟩ := h
              try dsimp only at h
              refine awp_end [(2, .pp 1 0), (4, .pp 3 0), (8, .pp 5 0)] [.row false (.trips a0_1), .rbox [.v (.int .i64 a0_0), .sl 0], .rbox [.v (.int .i64 a1_0), .v (.int .i64 a1_1), .v (.int .i64 a1_2)], .box [.v (.int .i64 0), .v (.slice none 0 0)], .dead, .box [.v (.int .i64 y_3), .sl 7], .row true (.trips [(a1_0, a1_1, a1_2)]), .row true (.trips y_5)] ?_ ?_
              · clear h
                intro K hK
                refine awp_region ftCOk ?_
                simp (maxSteps := 4000000) only [go_sem, Nat.reduceBEq, Nat.reduceLT, Nat.reduceAdd, Nat.reduceLeDiff, Nat.reduceSub, Nat.reduceEqDiff, Int.reduceToNat, reduceCtorEq, ↓reduceIte]
                repeat' (first | refine And.intro ?_ ?_ | intro hg)
                all_goals (try simp (disch := omega) only [wrap_fits])
                all_goals first
                  | (refine hK _ _ ?_; exact Red.auto)
                  | exact trivial
                  | assumption
                  | omega
                  | exact wrap_fits (by omega) (by omega)
                  | (refine wpA_callA (k_insF y_4 y_1 [(a1_0, a1_1, a1_2)] (h := hr0)) [4, 6] [] ?_
                     rintro x Hc' ⟨rfl, rfl⟩ hlen
                     refine vcOps_sound ftCOk ?_
                     simp (maxSteps := 4000000) only [go_sem, Nat.reduceBEq, Nat.reduceLT, Nat.reduceAdd, Nat.reduceLeDiff, Nat.reduceSub, Nat.reduceEqDiff, Int.reduceToNat, reduceCtorEq, ↓reduceIte]
                     repeat' (first | refine And.intro ?_ ?_ | intro hg)
                     all_goals (try simp (disch := omega) only [wrap_fits])
                     all_goals first
                       | (refine hK _ _ ?_; exact Red.auto)
                       | exact trivial
                       | assumption
                       | omega
                       | exact wrap_fits (by omega) (by omega)
                       | (simp_all; done)
                       | (simp_all; omega))
                  | (simp_all; done)
                  | (simp_all; omega)
              · clear hr0
                (try simp only [Thn, InBlk, ↓reduceIte, Nat.reduceEqDiff])
                refine ⟨_, h, ?_⟩
                exact Red.selA [0, 1, 3, 5, 7] Red.auto
          · clear h
            rintro t8_1s h
            try dsimp only at h
            try dsimp only
            refine awp_seq fun K7 hK7 => ?_
            replace h := bind_some h
            obtain ⟨y_6, hr0, h⟩ := h
            try dsimp only at h
            refine awp_to [(2, .pp 1 0), (4, .pp 2 0), (8, .pp 3 0), (37, .v (.bool (!y_6)))] [.row false (.trips a0_1), .rbox [.v (.int .i64 a0_0), .sl 0], .box [.v (.int .i64 0), .v (.slice none 0 0)], .box [.v (.int .i64 y_3), .sl 4], .row true (.trips t8_1s)] ?_ ?_
            · clear h
              intro K hK
              refine awp_region ftCOk ?_
              simp (maxSteps := 4000000) only [go_sem, Nat.reduceBEq, Nat.reduceLT, Nat.reduceAdd, Nat.reduceLeDiff, Nat.reduceSub, Nat.reduceEqDiff, Int.reduceToNat, reduceCtorEq, ↓reduceIte]
              repeat' (first | refine And.intro ?_ ?_ | intro hg)
              all_goals (try simp (disch := omega) only [wrap_fits])
              all_goals first
                | (refine hK _ _ ?_; exact Red.auto)
                | exact trivial
                | assumption
                | omega
                | exact wrap_fits (by omega) (by omega)
                | (refine wpA_callA (k_impl_GraphValid y_3 t8_1s (h := hr0)) [4] [] ?_
                   rintro x Hc' ⟨rfl, rfl⟩ hlen
                   refine vcOps_sound ftCOk ?_
                   simp (maxSteps := 4000000) only [go_sem, Nat.reduceBEq, Nat.reduceLT, Nat.reduceAdd, Nat.reduceLeDiff, Nat.reduceSub, Nat.reduceEqDiff, Int.reduceToNat, reduceCtorEq, ↓reduceIte]
                   repeat' (first | refine And.intro ?_ ?_ | intro hg)
                   all_goals (try simp (disch := omega) only [wrap_fits])
                   all_goals first
                     | (refine hK _ _ ?_; exact Red.auto)
                     | exact trivial
                     | assumption
                     | omega
                     | exact wrap_fits (by omega) (by omega)
                     | (simp_all; done)
                     | (simp_all; omega))
                | (simp_all; done)
                | (simp_all; omega)
            · clear hr0
              refine awp_cond (t := 37) rfl (fun hc8 => ?_) (fun hc8 => ?_)
              · replace h := bite_t h hc8
                replace h := bind_some h
                obtain ⟨⟨y_7, y_8⟩, hr0, h⟩ := h
                try dsimp only at h
                refine awp_to [(4, .pp 2 0), (5, .v (.bool false))] [.row false (.trips a0_1), .rbox [.v (.int .i64 a0_0), .sl 0], .box [.v (.int .i64 y_7), .sl 5], .box [.v (.int .i64 y_3), .sl 4], .row true (.trips t8_1s), .row true (.trips y_8)] ?_ ?_
                · clear h
                  intro K hK
                  refine awp_region ftCOk ?_
                  simp (maxSteps := 4000000) only [go_sem, Nat.reduceBEq, Nat.reduceLT, Nat.reduceAdd, Nat.reduceLeDiff, Nat.reduceSub, Nat.reduceEqDiff, Int.reduceToNat, reduceCtorEq, ↓reduceIte]
                  repeat' (first | refine And.intro ?_ ?_ | intro hg)
                  all_goals (try simp (disch := omega) only [wrap_fits])
                  all_goals first
                    | (refine hK _ _ ?_; exact Red.auto)
                    | exact trivial
                    | assumption
                    | omega
                    | exact wrap_fits (by omega) (by omega)
                    | (refine wpA_callA (k_impl_Graph_copied a0_0 a0_1 (h := hr0)) [0] [] ?_
                       rintro x Hc' ⟨rfl, rfl⟩ hlen
                       refine vcOps_sound ftCOk ?_
                       simp (maxSteps := 4000000) only [go_sem, Nat.reduceBEq, Nat.reduceLT, Nat.reduceAdd, Nat.reduceLeDiff, Nat.reduceSub, Nat.reduceEqDiff, Int.reduceToNat, reduceCtorEq, ↓reduceIte]
                       repeat' (first | refine And.intro ?_ ?_ | intro hg)
                       all_goals (try simp (disch := omega) only [wrap_fits])
                       all_goals first
                         | (refine hK _ _ ?_; exact Red.auto)
                         | exact trivial
                         | assumption
                         | omega
                         | exact wrap_fits (by omega) (by omega)
                         | (simp_all; done)
                         | (simp_all; omega))
                    | (simp_all; done)
                    | (simp_all; omega)
                · clear hr0
                  refine awp_ret ?_
                  (try simp only [Thn, InBlk, ↓reduceIte, Nat.reduceEqDiff])
                  obtain rfl := Option.some.inj h
                  refine ⟨by simp, _, [0, 5], (by simp only [go_sem, Nat.reduceBEq, Nat.reduceLT, Nat.reduceAdd, Nat.reduceLeDiff, Nat.reduceSub, Nat.reduceEqDiff, Int.reduceToNat, reduceCtorEq, ↓reduceIte]; exact rfl), ?_, ?_, ?_, ?_⟩
                  · first | exact trivial | exact ⟨trivial, trivial⟩ | exact ⟨trivial, trivial, trivial⟩ | exact ⟨trivial, trivial, trivial, trivial⟩ | (simp only [allP, and_true, true_and]; done) | (simp only [allP, and_true, true_and]; omega)
                  · simp [selOk, pos]
                  · simp
                  · first | exact ⟨rfl, rfl⟩ | (simp only [go_sem, Nat.reduceBEq, Nat.reduceLT, Nat.reduceAdd, Nat.reduceLeDiff, Nat.reduceSub, Nat.reduceEqDiff, Int.reduceToNat, reduceCtorEq, ↓reduceIte]; done) | (simp [go_sem, Nat.reduceBEq, Nat.reduceLT, Nat.reduceAdd, Nat.reduceLeDiff, Nat.reduceSub, Nat.reduceEqDiff, Int.reduceToNat, reduceCtorEq, ↓reduceIte]; done) | (simp only [go_sem, Nat.reduceBEq, Nat.reduceLT, Nat.reduceAdd, Nat.reduceLeDiff, Nat.reduceSub, Nat.reduceEqDiff, Int.reduceToNat, reduceCtorEq, ↓reduceIte]; exact ⟨rfl, rfl⟩) | (simp_all [go_sem, Nat.reduceBEq, Nat.reduceLT, Nat.reduceAdd, Nat.reduceLeDiff, Nat.reduceSub, Nat.reduceEqDiff, Int.reduceToNat, reduceCtorEq, ↓reduceIte]; done)
              · replace h := bite_f h hc8
                refine awp_skip ?_
                (try simp only [Thn, InBlk, ↓reduceIte, Nat.reduceEqDiff])
                refine hK7 _ _ ?_
                clear hK7
                refine awp_reg ftCOk [(4, .pp 2 0), (5, .v (.bool true))] [.row false (.trips a0_1), .rbox [.v (.int .i64 a0_0), .sl 0], .box [.v (.int .i64 y_3), .sl 4], .box [.v (.int .i64 y_3), .sl 4], .row true (.trips t8_1s)] ?_
                refine awp_ret ?_
                (try simp only [Thn, InBlk, ↓reduceIte, Nat.reduceEqDiff])
                obtain rfl := Option.some.inj h
                refine ⟨by simp, _, [0, 4], (by simp only [go_sem, Nat.reduceBEq, Nat.reduceLT, Nat.reduceAdd, Nat.reduceLeDiff, Nat.reduceSub, Nat.reduceEqDiff, Int.reduceToNat, reduceCtorEq, ↓reduceIte]; exact rfl), ?_, ?_, ?_, ?_⟩
                · first | exact trivial | exact ⟨trivial, trivial⟩ | exact ⟨trivial, trivial, trivial⟩ | exact ⟨trivial, trivial, trivial, trivial⟩ | (simp only [allP, and_true, true_and]; done) | (simp only [allP, and_true, true_and]; omega)
                · simp [selOk, pos]
                · simp
                · first | exact ⟨rfl, rfl⟩ | (simp only [go_sem, Nat.reduceBEq, Nat.reduceLT, Nat.reduceAdd, Nat.reduceLeDiff, Nat.reduceSub, Nat.reduceEqDiff, Int.reduceToNat, reduceCtorEq, ↓reduceIte]; done) | (simp [go_sem, Nat.reduceBEq, Nat.reduceLT, Nat.reduceAdd, Nat.reduceLeDiff, Nat.reduceSub, Nat.reduceEqDiff, Int.reduceToNat, reduceCtorEq, ↓reduceIte]; done) | (simp only [go_sem, Nat.reduceBEq, Nat.reduceLT, Nat.reduceAdd, Nat.reduceLeDiff, Nat.reduceSub, Nat.reduceEqDiff, Int.reduceToNat, reduceCtorEq, ↓reduceIte]; exact ⟨rfl, rfl⟩) | (simp_all [go_sem, Nat.reduceBEq, Nat.reduceLT, Nat.reduceAdd, Nat.reduceLeDiff, Nat.reduceSub, Nat.reduceEqDiff, Int.reduceToNat, reduceCtorEq, ↓reduceIte]; done)
end Go.Proofs.Ytaogppnbeijjmaa
