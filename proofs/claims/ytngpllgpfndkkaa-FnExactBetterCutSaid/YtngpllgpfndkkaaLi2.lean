/- The code computes the functions that were taken out of it. -/
import Derived.Test.YtngpllgpfndkkaaLi1
set_option maxRecDepth 100000
set_option maxHeartbeats 4000000
set_option linter.unusedSimpArgs false
set_option linter.unusedVariables false
namespace Go.Proofs.Ytngpllgpfndkkaa
open Go Go.Av
attribute [local irreducible] wpA OpK awp
attribute [local go_sem] pw8_32 pw16_32 pw24_32 pw27_32 buildQ placesOf buildCells List.toList_toArray vcQg gfind gfree gput un3_agg unI_int unB_bool unK_int guardU skipV resVs resV vcD_nil vcD_cons vcT_fin vcT_free vcT_one vcT_two opS vcD1 roH roOb ftNone ftAdd oneOrTup AV.detup AV.ren AV.ren2 AV.ren1 pos selH AObj.ren fitAll fit fit1 fit1s matchAll matchOb exIds AObj.excl Env.killp pastH setAll upId AObj.past AObj.back AV.killp AV.killp1 AV.killp2 Nat.sub_self Nat.lt_irrefl Bool.or_self vcOps vcOp vcQs vcQ dstOk quiet eff pcall plain valsOf ev ofConst argEnv List.lookup Nat.add_eq decide_true decide_false Env.put binV wrapTo unV convV loadQ indexQ callQ builtinQ rd globC AObj.globC partAV isAggD isArrayD addrAdd boxE storeE makeE buildSliceE buildFold appendE sliceE boundAV subObj asCells Value.oneCell' contZero Cont.sets Cont.app Cont.sub Cont.len Cont.esz Cont.cell Cont.cells Cont.flat AV.det AV.det1 guardV AObj.unview AObj.kill Env.kill AV.kill AV.kill1 AV.kill2 fits64 Option.getD_some Option.getD_none Option.map_some Option.map_none Option.bind_some List.map_cons List.map_nil List.getElem?_cons_zero List.getElem?_cons_succ List.getElem?_nil true_and and_true List.getElem?_toArray List.cons_append List.nil_append List.length_cons List.length_nil List.set_cons_zero List.set_cons_succ List.take_succ_cons List.take_zero List.drop_succ_cons List.drop_zero List.drop_nil List.take_nil List.contains_cons List.contains_nil List.elem_cons List.elem_nil Bool.not_true Bool.not_false Bool.false_eq_true Bool.or_false Bool.or_true Bool.and_true Bool.and_false Bool.true_and Bool.false_and List.all_cons List.all_nil List.size_toArray Nat.lt_add_one Nat.zero_lt_succ Nat.one_ne_zero Nat.zero_ne_one and_self List.replicate_succ List.replicate_zero Int.toNat_natCast Int.toNat_zero Value.cells false_implies true_implies forall_const Thn InBlk Nat.zero_add Nat.add_zero Int.zero_add Ele Env.ren Option.some.injEq AV.v.injEq AV.sl.injEq AV.pp.injEq AV.ep.injEq AV.agg.injEq List.cons.injEq Value.int.injEq Value.bool.injEq Value.string.injEq true_or or_true or_false false_or tsz0 tby0 tz0 Try.underlying0 tsz1 tby1 tz1 Try.underlying1 tsz2 tby2 tz2 Try.underlying2 tsz3 tby3 tz3 Try.underlying3 tsz4 tby4 tz4 Try.underlying4 tsz5 tby5 tz5 Try.underlying5 tsz6 tby6 tz6 Try.underlying6 tsz7 tby7 tz7 Try.underlying7 fo7_0 fo7_1 fo7_2 fo7_3 tsz8 tby8 tz8 Try.underlying8 fo8_0 fo8_1 fo8_2 fo8_3 tsz9 tby9 Try.underlying9 tsz10 tby10 Try.underlying10 tsz11 tby11 Try.underlying11 tsz12 tby12 tz12 Try.underlying12 tsz13 tby13 Try.underlying13 fo13_0 fo13_1 tsz14 tby14 Try.underlying14 fo14_0 fo14_1 tsz15 tby15 tz15 Try.underlying15 tsz16 tby16 tz16 Try.underlying16 tsz17 tby17 tz17 Try.underlying17 tsz18 tby18 tz18 Try.underlying18 fo18_0 tsz19 tby19 tz19 Try.underlying19 fo19_0 tsz20 tby20 tz20 Try.underlying20 tsz21 tby21 tz21 Try.underlying21 tsz22 tby22 tz22 Try.underlying22 tsz23 tby23 tz23 Try.underlying23 fo23_0 fo23_1 tsz24 tby24 tz24 Try.underlying24 fo24_0 fo24_1 tsz25 tby25 tz25 Try.underlying25 tsz26 tby26 tz26 Try.underlying26 tsz27 tby27 tz27 Try.underlying27 tsz28 tby28 tz28 Try.underlying28 tsz29 tby29 tz29 Try.underlying29 fo29_0 fo29_1 tsz30 tby30 tz30 Try.underlying30 fo30_0 fo30_1 tsz31 tby31 tz31 Try.underlying31 tsz32 tby32 tz32 Try.underlying32 tsz33 tby33 tz33 Try.underlying33 tsz34 tby34 tz34 Try.underlying34 tsz35 tby35 tz35 Try.underlying35 tsz36 tby36 tz36 Try.underlying36 tsz37 tby37 tz37 Try.underlying37 tsz38 tby38 tz38 Try.underlying38 tsz39 tby39 tz39 Try.underlying39 tsz40 tby40 tz40 Try.underlying40 tsz41 tby41 tz41 Try.underlying41 tsz42 tby42 tz42 Try.underlying42 tsz43 tby43 tz43 Try.underlying43 tsz44 tby44 tz44 Try.underlying44 tsz45 tby45 tz45 Try.underlying45 tsz46 tby46 tz46 Try.underlying46 tsz47 tby47 tz47 Try.underlying47 tsz48 tby48 tz48 Try.underlying48 tsz49 tby49 tz49 Try.underlying49 tsz50 tby50 tz50 Try.underlying50 tsz51 tby51 tz51 Try.underlying51 tsz52 tby52 tz52 Try.underlying52 tsz53 tby53 tz53 Try.underlying53 tsz54 tby54 tz54 Try.underlying54 tsz55 tby55 tz55 Try.underlying55 tsz56 tby56 tz56 Try.underlying56 tsz57 tby57 tz57 Try.underlying57 tsz58 tby58 tz58 Try.underlying58 tsz59 tby59 tz59 Try.underlying59 fo59_0 fo59_1 fo59_2 tsz60 tby60 tz60 Try.underlying60 fo60_0 fo60_1 fo60_2 tsz61 tby61 tz61 Try.underlying61 tsz62 tby62 tz62 Try.underlying62 tsz63 tby63 tz63 Try.underlying63 tsz64 tby64 tz64 Try.underlying64 tsz65 tby65 tz65 Try.underlying65 tsz66 tby66 tz66 Try.underlying66 tsz67 tby67 tz67 Try.underlying67 tsz68 tby68 tz68 Try.underlying68 tsz69 tby69 tz69 Try.underlying69 tsz70 tby70 tz70 Try.underlying70 tsz71 tby71 tz71 Try.underlying71 tsz72 tby72 tz72 Try.underlying72 tsz73 tby73 tz73 Try.underlying73 tsz74 tby74 tz74 Try.underlying74 tsz75 tby75 tz75 Try.underlying75 tsz76 tby76 tz76 Try.underlying76 tsz77 tby77 tz77 Try.underlying77 tsz78 tby78 tz78 Try.underlying78 tsz79 tby79 tz79 Try.underlying79 tsz80 tby80 tz80 Try.underlying80 tsz81 tby81 tz81 Try.underlying81 fo81_0 fo81_1 fo81_2 tsz82 tby82 tz82 Try.underlying82 tsz83 tby83 tz83 Try.underlying83 fo83_0 fo83_1 tsz84 tby84 tz84 Try.underlying84 fo84_0 fo84_1 tsz85 tby85 tz85 Try.underlying85 tsz86 tby86 tz86 Try.underlying86 tsz87 tby87 tz87 Try.underlying87 tsz88 tby88 tz88 Try.underlying88 tsz89 tby89 tz89 Try.underlying89 tsz90 tby90 tz90 Try.underlying90 tsz91 tby91 tz91 Try.underlying91 tsz92 tby92 tz92 Try.underlying92 tsz93 tby93 tz93 Try.underlying93 tsz94 tby94 tz94 Try.underlying94 tsz95 tby95 tz95 Try.underlying95 tsz96 tby96 Try.underlying96 fo96_0 fo96_1 fo96_2 fo96_3 tsz97 tby97 Try.underlying97 fo97_0 fo97_1 fo97_2 fo97_3 tsz98 tby98 tz98 Try.underlying98 tsz99 tby99 tz99 Try.underlying99 tsz100 tby100 tz100 Try.underlying100 tsz101 tby101 tz101 Try.underlying101 tsz102 tby102 tz102 Try.underlying102 tsz103 tby103 tz103 Try.underlying103 tsz104 tby104 tz104 Try.underlying104 tsz105 tby105 tz105 Try.underlying105 tsz106 tby106 tz106 Try.underlying106 tsz107 tby107 tz107 Try.underlying107 tsz108 tby108 tz108 Try.underlying108 fo108_0 fo108_1 fo108_2 fo108_3 fo108_4 fo108_5 fo108_6 fo108_7 fo108_8 fo108_9 fo108_10 tsz109 tby109 tz109 Try.underlying109 fo109_0 fo109_1 fo109_2 fo109_3 fo109_4 fo109_5 fo109_6 fo109_7 fo109_8 fo109_9 fo109_10 tsz110 tby110 tz110 Try.underlying110 l1InG eqEdgeG l4BeforeG isNaNG cmpIntG cmpEndsG toEdgeG ftC
theorem k_laws_FnExactBetterCut (a0_0 : Int) (a0_1 : List (Int × Int × Int)) (a1 : List Bool) {r : Bool} (h : laws_FnExactBetterCut a0_0 a0_1 a1 = some r) :
    FnA Try.prog 4 [.agg [.v (.int .i64 a0_0), .sl 0], .sl 1] [.row false (.trips a0_1), .row false (.bools a1)] [] (fun x H => x = .v (.bool r) ∧ H = [.row false (.trips a0_1), .row false (.bools a1)]) := by
  unfold laws_FnExactBetterCut at h
  refine FnA.of (N := 117) (pin := [0, 1]) (rs := [.tmp 4]) Try.func4 rfl en4 rfl rfl (by simp) (by simp; try omega) ?_
  refine awp_reg ftCOk [(1, .sl 1), (2, .pp 2 0)] [.row false (.trips a0_1), .row false (.bools a1), .box [.v (.int .i64 a0_0), .sl 0]] ?_
  refine awp_freeze 2 (by rfl) (by rfl) (by exact rfl) ?_
  refine awp_seq fun K2 hK2 => ?_
  refine awp_reg ftCOk [(1, .sl 1), (2, .pp 2 0), (19, .v (.bool (decide (1048576 < (a1.length : Int)))))] [.row false (.trips a0_1), .row false (.bools a1), .rbox [.v (.int .i64 a0_0), .sl 0]] ?_
  refine awp_cond (t := 19) rfl (fun hc3 => ?_) (fun hc3 => ?_)
  · replace h := bite_t h hc3
    refine awp_reg ftCOk [(4, .v (.bool true))] [.row false (.trips a0_1), .row false (.bools a1), .rbox [.v (.int .i64 a0_0), .sl 0]] ?_
    refine awp_ret ?_
    (try simp only [Thn, InBlk, ↓reduceIte, Nat.reduceEqDiff])
    obtain rfl := Option.some.inj h
    refine ⟨by simp, _, [0, 1], (by simp only [go_sem, Nat.reduceBEq, Nat.reduceLT, Nat.reduceAdd, Nat.reduceLeDiff, Nat.reduceSub, Nat.reduceEqDiff, Int.reduceToNat, reduceCtorEq, ↓reduceIte]; exact rfl), ?_, ?_, ?_, ?_⟩
    · first | exact trivial | exact ⟨trivial, trivial⟩ | exact ⟨trivial, trivial, trivial⟩ | exact ⟨trivial, trivial, trivial, trivial⟩ | (simp only [allP, and_true, true_and]; done) | (simp only [allP, and_true, true_and]; omega)
    · simp [selOk, pos]
    · simp
    · first | exact ⟨rfl, rfl⟩ | (simp only [go_sem, Nat.reduceBEq, Nat.reduceLT, Nat.reduceAdd, Nat.reduceLeDiff, Nat.reduceSub, Nat.reduceEqDiff, Int.reduceToNat, reduceCtorEq, ↓reduceIte]; done) | (simp [go_sem, Nat.reduceBEq, Nat.reduceLT, Nat.reduceAdd, Nat.reduceLeDiff, Nat.reduceSub, Nat.reduceEqDiff, Int.reduceToNat, reduceCtorEq, ↓reduceIte]; done) | (simp only [go_sem, Nat.reduceBEq, Nat.reduceLT, Nat.reduceAdd, Nat.reduceLeDiff, Nat.reduceSub, Nat.reduceEqDiff, Int.reduceToNat, reduceCtorEq, ↓reduceIte]; exact ⟨rfl, rfl⟩) | (simp_all [go_sem, Nat.reduceBEq, Nat.reduceLT, Nat.reduceAdd, Nat.reduceLeDiff, Nat.reduceSub, Nat.reduceEqDiff, Int.reduceToNat, reduceCtorEq, ↓reduceIte]; done)
  · replace h := bite_f h hc3
    refine awp_skip ?_
    (try simp only [Thn, InBlk, ↓reduceIte, Nat.reduceEqDiff])
    refine hK2 _ _ ?_
    clear hK2
    refine awp_reg ftCOk [(1, .sl 1), (2, .pp 2 0), (5, .v (.int .i64 1048576))] [.row false (.trips a0_1), .row false (.bools a1), .rbox [.v (.int .i64 a0_0), .sl 0]] ?_
    replace h := bind_some h
    obtain ⟨y, hr0, h⟩ := h
    try dsimp only at h
    refine awp_to [(1, .sl 1), (2, .pp 2 0), (5, .v (.int .i64 y))] [.row false (.trips a0_1), .row false (.bools a1), .rbox [.v (.int .i64 a0_0), .sl 0]] ?_ ?_
    · clear h
      intro K hK
      refine awp_region ftCOk ?_
      simp (maxSteps := 4000000) only [go_sem, Nat.reduceBEq, Nat.reduceLT, Nat.reduceAdd, Nat.reduceLeDiff, Nat.reduceSub, Nat.reduceEqDiff, Int.reduceToNat, reduceCtorEq, ↓reduceIte]
      repeat' (first | refine And.intro ?_ ?_ | intro hg)
      all_goals (try simp (disch := omega) only [wrap_fits])
      all_goals first
        | (refine hK _ _ ?_; exact Red.auto)
        | exact trivial
        | assumption
        | omega
        | exact wrap_fits (by omega) (by omega)
        | (refine wpA_callA (k_laws_szGraph a0_0 a0_1 1048576 (h := hr0)) [0] [] ?_
           rintro x Hc' ⟨rfl, rfl⟩ hlen
           refine vcOps_sound ftCOk ?_
           simp (maxSteps := 4000000) only [go_sem, Nat.reduceBEq, Nat.reduceLT, Nat.reduceAdd, Nat.reduceLeDiff, Nat.reduceSub, Nat.reduceEqDiff, Int.reduceToNat, reduceCtorEq, ↓reduceIte]
           repeat' (first | refine And.intro ?_ ?_ | intro hg)
           all_goals (try simp (disch := omega) only [wrap_fits])
           all_goals first
             | (refine hK _ _ ?_; exact Red.auto)
             | exact trivial
             | assumption
             | omega
             | exact wrap_fits (by omega) (by omega)
             | (simp_all; done)
             | (simp_all; omega))
        | (simp_all; done)
        | (simp_all; omega)
    · clear hr0
      refine awp_seq fun K5 hK5 => ?_
      refine awp_reg ftCOk [(1, .sl 1), (2, .pp 2 0), (24, .v (.bool (decide (y < 0))))] [.row false (.trips a0_1), .row false (.bools a1), .rbox [.v (.int .i64 a0_0), .sl 0]] ?_
      refine awp_cond (t := 24) rfl (fun hc6 => ?_) (fun hc6 => ?_)
      · replace h := bite_t h hc6
        refine awp_reg ftCOk [(4, .v (.bool true))] [.row false (.trips a0_1), .row false (.bools a1), .rbox [.v (.int .i64 a0_0), .sl 0]] ?_
        refine awp_ret ?_
        (try simp only [Thn, InBlk, ↓reduceIte, Nat.reduceEqDiff])
        obtain rfl := Option.some.inj h
        refine ⟨by simp, _, [0, 1], (by simp only [go_sem, Nat.reduceBEq, Nat.reduceLT, Nat.reduceAdd, Nat.reduceLeDiff, Nat.reduceSub, Nat.reduceEqDiff, Int.reduceToNat, reduceCtorEq, ↓reduceIte]; exact rfl), ?_, ?_, ?_, ?_⟩
        · first | exact trivial | exact ⟨trivial, trivial⟩ | exact ⟨trivial, trivial, trivial⟩ | exact ⟨trivial, trivial, trivial, trivial⟩ | (simp only [allP, and_true, true_and]; done) | (simp only [allP, and_true, true_and]; omega)
        · simp [selOk, pos]
        · simp
        · first | exact ⟨rfl, rfl⟩ | (simp only [go_sem, Nat.reduceBEq, Nat.reduceLT, Nat.reduceAdd, Nat.reduceLeDiff, Nat.reduceSub, Nat.reduceEqDiff, Int.reduceToNat, reduceCtorEq, ↓reduceIte]; done) | (simp [go_sem, Nat.reduceBEq, Nat.reduceLT, Nat.reduceAdd, Nat.reduceLeDiff, Nat.reduceSub, Nat.reduceEqDiff, Int.reduceToNat, reduceCtorEq, ↓reduceIte]; done) | (simp only [go_sem, Nat.reduceBEq, Nat.reduceLT, Nat.reduceAdd, Nat.reduceLeDiff, Nat.reduceSub, Nat.reduceEqDiff, Int.reduceToNat, reduceCtorEq, ↓reduceIte]; exact ⟨rfl, rfl⟩) | (simp_all [go_sem, Nat.reduceBEq, Nat.reduceLT, Nat.reduceAdd, Nat.reduceLeDiff, Nat.reduceSub, Nat.reduceEqDiff, Int.reduceToNat, reduceCtorEq, ↓reduceIte]; done)
      · replace h := bite_f h hc6
        refine awp_skip ?_
        (try simp only [Thn, InBlk, ↓reduceIte, Nat.reduceEqDiff])
        refine hK5 _ _ ?_
        clear hK5
        replace h := bind_some h
        obtain ⟨⟨y_1, y_2⟩, hr0, h⟩ := h
        try dsimp only at h
        replace h := bind_some h
        obtain ⟨y_3, hr1, h⟩ := h
        try dsimp only at h
        replace h := bind_some h
        obtain ⟨⟨y_4, y_5⟩, hr2, h⟩ := h
        try dsimp only at h
        refine awp_to [(1, .sl 1), (2, .pp 2 0), (6, .sl 5), (7, .v (.int .i64 y_5))] [.row false (.trips a0_1), .row false (.bools a1), .rbox [.v (.int .i64 a0_0), .sl 0], .row true (.trips y_2), .row true (.bools y_3), .row true (.bools y_4)] ?_ ?_
        · clear h
          intro K hK
          refine awp_region ftCOk ?_
          simp (maxSteps := 4000000) only [go_sem, Nat.reduceBEq, Nat.reduceLT, Nat.reduceAdd, Nat.reduceLeDiff, Nat.reduceSub, Nat.reduceEqDiff, Int.reduceToNat, reduceCtorEq, ↓reduceIte]
          repeat' (first | refine And.intro ?_ ?_ | intro hg)
          all_goals (try simp (disch := omega) only [wrap_fits])
          all_goals first
            | (refine hK _ _ ?_; exact Red.auto)
            | exact trivial
            | assumption
            | omega
            | exact wrap_fits (by omega) (by omega)
            | (refine wpA_callA (k_laws_toGraph a0_0 a0_1 (h := hr0)) [0] [] ?_
               rintro x Hc' ⟨rfl, rfl⟩ hlen
               refine vcOps_sound ftCOk ?_
               simp (maxSteps := 4000000) only [go_sem, Nat.reduceBEq, Nat.reduceLT, Nat.reduceAdd, Nat.reduceLeDiff, Nat.reduceSub, Nat.reduceEqDiff, Int.reduceToNat, reduceCtorEq, ↓reduceIte]
               repeat' (first | refine And.intro ?_ ?_ | intro hg)
               all_goals (try simp (disch := omega) only [wrap_fits])
               all_goals first
                 | (refine hK _ _ ?_; exact Red.auto)
                 | exact trivial
                 | assumption
                 | omega
                 | exact wrap_fits (by omega) (by omega)
                 | (refine wpA_callA (k_laws_toBoolS a1 (h := hr1)) [1] [] ?_
                    rintro x Hc' ⟨rfl, rfl⟩ hlen
                    refine vcOps_sound ftCOk ?_
                    simp (maxSteps := 4000000) only [go_sem, Nat.reduceBEq, Nat.reduceLT, Nat.reduceAdd, Nat.reduceLeDiff, Nat.reduceSub, Nat.reduceEqDiff, Int.reduceToNat, reduceCtorEq, ↓reduceIte]
                    repeat' (first | refine And.intro ?_ ?_ | intro hg)
                    all_goals (try simp (disch := omega) only [wrap_fits])
                    all_goals first
                      | (refine hK _ _ ?_; exact Red.auto)
                      | exact trivial
                      | assumption
                      | omega
                      | exact wrap_fits (by omega) (by omega)
                      | (refine wpA_callA (k_spec_BetterCut y_1 y_2 y_3 (h := hr2)) [3, 4] [] ?_
                         rintro x Hc' ⟨rfl, rfl⟩ hlen
                         refine vcOps_sound ftCOk ?_
                         simp (maxSteps := 4000000) only [go_sem, Nat.reduceBEq, Nat.reduceLT, Nat.reduceAdd, Nat.reduceLeDiff, Nat.reduceSub, Nat.reduceEqDiff, Int.reduceToNat, reduceCtorEq, ↓reduceIte]
                         repeat' (first | refine And.intro ?_ ?_ | intro hg)
                         all_goals (try simp (disch := omega) only [wrap_fits])
                         all_goals first
                           | (refine hK _ _ ?_; exact Red.auto)
                           | exact trivial
                           | assumption
                           | omega
                           | exact wrap_fits (by omega) (by omega)
                           | (simp_all; done)
                           | (simp_all; omega))
                      | (simp_all; done)
                      | (simp_all; omega))
                 | (simp_all; done)
                 | (simp_all; omega))
            | (simp_all; done)
            | (simp_all; omega)
        · clear hr0 hr1 hr2
          replace h := bind_some h
          obtain ⟨⟨y_6, y_7⟩, hr0, h⟩ := h
          try dsimp only at h
          refine awp_to [(1, .sl 1), (2, .pp 2 0), (6, .sl 5), (7, .v (.int .i64 y_5)), (8, .pp 7 0)] [.row false (.trips a0_1), .row false (.bools a1), .rbox [.v (.int .i64 a0_0), .sl 0], .row true (.trips y_2), .row true (.bools y_3), .row true (.bools y_4), .row true (.trips y_7), .box [.v (.int .i64 y_6), .sl 6]] ?_ ?_
          · clear h
            intro K hK
            refine awp_region ftCOk ?_
            simp (maxSteps := 4000000) only [go_sem, Nat.reduceBEq, Nat.reduceLT, Nat.reduceAdd, Nat.reduceLeDiff, Nat.reduceSub, Nat.reduceEqDiff, Int.reduceToNat, reduceCtorEq, ↓reduceIte]
            repeat' (first | refine And.intro ?_ ?_ | intro hg)
            all_goals (try simp (disch := omega) only [wrap_fits])
            all_goals first
              | (refine hK _ _ ?_; exact Red.auto)
              | exact trivial
              | assumption
              | omega
              | exact wrap_fits (by omega) (by omega)
              | (refine wpA_callA (k_laws_toGraph a0_0 a0_1 (h := hr0)) [0] [] ?_
                 rintro x Hc' ⟨rfl, rfl⟩ hlen
                 refine vcOps_sound ftCOk ?_
                 simp (maxSteps := 4000000) only [go_sem, Nat.reduceBEq, Nat.reduceLT, Nat.reduceAdd, Nat.reduceLeDiff, Nat.reduceSub, Nat.reduceEqDiff, Int.reduceToNat, reduceCtorEq, ↓reduceIte]
                 repeat' (first | refine And.intro ?_ ?_ | intro hg)
                 all_goals (try simp (disch := omega) only [wrap_fits])
                 all_goals first
                   | (refine hK _ _ ?_; exact Red.auto)
                   | exact trivial
                   | assumption
                   | omega
                   | exact wrap_fits (by omega) (by omega)
                   | (simp_all; done)
                   | (simp_all; omega))
              | (simp_all; done)
              | (simp_all; omega)
          · clear hr0
            replace h := bind_some h
            obtain ⟨y_8, hr0, h⟩ := h
            try dsimp only at h
            refine awp_to [(1, .sl 1), (2, .pp 2 0), (6, .sl 5), (7, .v (.int .i64 y_5)), (8, .pp 7 0), (9, .sl 8)] [.row false (.trips a0_1), .row false (.bools a1), .rbox [.v (.int .i64 a0_0), .sl 0], .row true (.trips y_2), .row true (.bools y_3), .row true (.bools y_4), .row true (.trips y_7), .box [.v (.int .i64 y_6), .sl 6], .row true (.bools y_8)] ?_ ?_
            · clear h
              intro K hK
              refine awp_region ftCOk ?_
              simp (maxSteps := 4000000) only [go_sem, Nat.reduceBEq, Nat.reduceLT, Nat.reduceAdd, Nat.reduceLeDiff, Nat.reduceSub, Nat.reduceEqDiff, Int.reduceToNat, reduceCtorEq, ↓reduceIte]
              repeat' (first | refine And.intro ?_ ?_ | intro hg)
              all_goals (try simp (disch := omega) only [wrap_fits])
              all_goals first
                | (refine hK _ _ ?_; exact Red.auto)
                | exact trivial
                | assumption
                | omega
                | exact wrap_fits (by omega) (by omega)
                | (refine wpA_callA (k_laws_toBoolS a1 (h := hr0)) [1] [] ?_
                   rintro x Hc' ⟨rfl, rfl⟩ hlen
                   refine vcOps_sound ftCOk ?_
                   simp (maxSteps := 4000000) only [go_sem, Nat.reduceBEq, Nat.reduceLT, Nat.reduceAdd, Nat.reduceLeDiff, Nat.reduceSub, Nat.reduceEqDiff, Int.reduceToNat, reduceCtorEq, ↓reduceIte]
                   repeat' (first | refine And.intro ?_ ?_ | intro hg)
                   all_goals (try simp (disch := omega) only [wrap_fits])
                   all_goals first
                     | (refine hK _ _ ?_; exact Red.auto)
                     | exact trivial
                     | assumption
                     | omega
                     | exact wrap_fits (by omega) (by omega)
                     | (simp_all; done)
                     | (simp_all; omega))
                | (simp_all; done)
                | (simp_all; omega)
            · clear hr0
              replace h := bind_some h
              obtain ⟨⟨y_9, y_10⟩, hr0, h⟩ := h
              try dsimp only at h
              refine awp_to [(1, .sl 1), (2, .pp 2 0), (6, .sl 5), (7, .v (.int .i64 y_5)), (8, .pp 7 0), (9, .sl 8), (10, .sl 9), (11, .v (.int .i64 y_10))] [.row false (.trips a0_1), .row false (.bools a1), .rbox [.v (.int .i64 a0_0), .sl 0], .row true (.trips y_2), .row true (.bools y_3), .row true (.bools y_4), .row true (.trips y_7), .box [.v (.int .i64 y_6), .sl 6], .row true (.bools y_8), .row true (.bools y_9)] ?_ ?_
              · clear h
                intro K hK
                refine awp_region ftCOk ?_
                simp (maxSteps := 4000000) only [go_sem, Nat.reduceBEq, Nat.reduceLT, Nat.reduceAdd, Nat.reduceLeDiff, Nat.reduceSub, Nat.reduceEqDiff, Int.reduceToNat, reduceCtorEq, ↓reduceIte]
                repeat' (first | refine And.intro ?_ ?_ | intro hg)
                all_goals (try simp (disch := omega) only [wrap_fits])
                all_goals first
                  | (refine hK _ _ ?_; exact Red.auto)
                  | exact trivial
                  | assumption
                  | omega
                  | exact wrap_fits (by omega) (by omega)
                  | (refine wpA_callA (k_impl_BetterCut y_6 y_7 y_8 (h := hr0)) [6, 8] [] ?_
                     rintro x Hc' ⟨rfl, rfl⟩ hlen
                     refine vcOps_sound ftCOk ?_
                     simp (maxSteps := 4000000) only [go_sem, Nat.reduceBEq, Nat.reduceLT, Nat.reduceAdd, Nat.reduceLeDiff, Nat.reduceSub, Nat.reduceEqDiff, Int.reduceToNat, reduceCtorEq, ↓reduceIte]
                     repeat' (first | refine And.intro ?_ ?_ | intro hg)
                     all_goals (try simp (disch := omega) only [wrap_fits])
                     all_goals first
                       | (refine hK _ _ ?_; exact Red.auto)
                       | exact trivial
                       | assumption
                       | omega
                       | exact wrap_fits (by omega) (by omega)
                       | (simp_all; done)
                       | (simp_all; omega))
                  | (simp_all; done)
                  | (simp_all; omega)
              · clear hr0
                refine awp_seq fun K8 hK8 => ?_
                replace h := bind_some h
                obtain ⟨y_11, hr0, h⟩ := h
                try dsimp only at h
                refine awp_to [(1, .sl 1), (2, .pp 2 0), (6, .sl 5), (7, .v (.int .i64 y_5)), (8, .pp 7 0), (9, .sl 8), (10, .sl 9), (11, .v (.int .i64 y_10)), (51, .v (.bool ((!y_11) || (y_10 != y_5))))] [.row false (.trips a0_1), .row false (.bools a1), .rbox [.v (.int .i64 a0_0), .sl 0], .row true (.trips y_2), .row true (.bools y_3), .row true (.bools y_4), .row true (.trips y_7), .box [.v (.int .i64 y_6), .sl 6], .row true (.bools y_8), .row true (.bools y_9)] ?_ ?_
                · clear h
                  intro K hK
                  refine awp_region ftCOk ?_
                  simp (maxSteps := 4000000) only [go_sem, Nat.reduceBEq, Nat.reduceLT, Nat.reduceAdd, Nat.reduceLeDiff, Nat.reduceSub, Nat.reduceEqDiff, Int.reduceToNat, reduceCtorEq, ↓reduceIte]
                  repeat' (first | refine And.intro ?_ ?_ | intro hg)
                  all_goals (try simp (disch := omega) only [wrap_fits])
                  all_goals first
                    | (refine hK _ _ ?_; exact Red.auto)
                    | exact trivial
                    | assumption
                    | omega
                    | exact wrap_fits (by omega) (by omega)
                    | (refine wpA_callA (k_laws_eqBoolS y_9 y_4 (h := hr0)) [9, 5] [] ?_
                       rintro x Hc' ⟨rfl, rfl⟩ hlen
                       refine vcOps_sound ftCOk ?_
                       simp (maxSteps := 4000000) only [go_sem, Nat.reduceBEq, Nat.reduceLT, Nat.reduceAdd, Nat.reduceLeDiff, Nat.reduceSub, Nat.reduceEqDiff, Int.reduceToNat, reduceCtorEq, ↓reduceIte]
                       repeat' (first | refine And.intro ?_ ?_ | intro hg)
                       all_goals (try simp (disch := omega) only [wrap_fits])
                       all_goals first
                         | (refine hK _ _ ?_; exact Red.auto)
                         | exact trivial
                         | assumption
                         | omega
                         | exact wrap_fits (by omega) (by omega)
                         | (simp_all; done)
                         | (simp_all; omega))
                    | (simp_all; done)
                    | (simp_all; omega)
                · clear hr0
                  refine awp_cond (t := 51) rfl (fun hc9 => ?_) (fun hc9 => ?_)
                  · replace h := bite_t h hc9
                    refine awp_reg ftCOk [(4, .v (.bool false))] [.row false (.trips a0_1), .row false (.bools a1), .rbox [.v (.int .i64 a0_0), .sl 0], .row true (.trips y_2), .row true (.bools y_3), .row true (.bools y_4), .row true (.trips y_7), .box [.v (.int .i64 y_6), .sl 6], .row true (.bools y_8), .row true (.bools y_9)] ?_
                    refine awp_ret ?_
                    (try simp only [Thn, InBlk, ↓reduceIte, Nat.reduceEqDiff])
                    obtain rfl := Option.some.inj h
                    refine ⟨by simp, _, [0, 1], (by simp only [go_sem, Nat.reduceBEq, Nat.reduceLT, Nat.reduceAdd, Nat.reduceLeDiff, Nat.reduceSub, Nat.reduceEqDiff, Int.reduceToNat, reduceCtorEq, ↓reduceIte]; exact rfl), ?_, ?_, ?_, ?_⟩
                    · first | exact trivial | exact ⟨trivial, trivial⟩ | exact ⟨trivial, trivial, trivial⟩ | exact ⟨trivial, trivial, trivial, trivial⟩ | (simp only [allP, and_true, true_and]; done) | (simp only [allP, and_true, true_and]; omega)
                    · simp [selOk, pos]
                    · simp
                    · first | exact ⟨rfl, rfl⟩ | (simp only [go_sem, Nat.reduceBEq, Nat.reduceLT, Nat.reduceAdd, Nat.reduceLeDiff, Nat.reduceSub, Nat.reduceEqDiff, Int.reduceToNat, reduceCtorEq, ↓reduceIte]; done) | (simp [go_sem, Nat.reduceBEq, Nat.reduceLT, Nat.reduceAdd, Nat.reduceLeDiff, Nat.reduceSub, Nat.reduceEqDiff, Int.reduceToNat, reduceCtorEq, ↓reduceIte]; done) | (simp only [go_sem, Nat.reduceBEq, Nat.reduceLT, Nat.reduceAdd, Nat.reduceLeDiff, Nat.reduceSub, Nat.reduceEqDiff, Int.reduceToNat, reduceCtorEq, ↓reduceIte]; exact ⟨rfl, rfl⟩) | (simp_all [go_sem, Nat.reduceBEq, Nat.reduceLT, Nat.reduceAdd, Nat.reduceLeDiff, Nat.reduceSub, Nat.reduceEqDiff, Int.reduceToNat, reduceCtorEq, ↓reduceIte]; done)
                  · replace h := bite_f h hc9
                    refine awp_skip ?_
                    (try simp only [Thn, InBlk, ↓reduceIte, Nat.reduceEqDiff])
                    refine hK8 _ _ ?_
                    clear hK8
                    refine awp_seq fun K11 hK11 => ?_
                    replace h := bind_some h
                    obtain ⟨⟨y_12, y_13⟩, hr0, h⟩ := h
                    try dsimp only at h
                    replace h := bind_some h
                    obtain ⟨y_14, hr1, h⟩ := h
                    try dsimp only at h
                    refine awp_to [(1, .sl 1), (2, .pp 2 0), (6, .sl 5), (7, .v (.int .i64 y_5)), (8, .pp 7 0), (9, .sl 8), (10, .sl 9), (11, .v (.int .i64 y_10)), (56, .v (.bool (!y_14)))] [.row false (.trips a0_1), .row false (.bools a1), .rbox [.v (.int .i64 a0_0), .sl 0], .row true (.trips y_2), .row true (.bools y_3), .row true (.bools y_4), .row true (.trips y_7), .box [.v (.int .i64 y_6), .sl 6], .row true (.bools y_8), .row true (.bools y_9), .row true (.trips y_13)] ?_ ?_
                    · clear h
                      intro K hK
                      refine awp_drawT mixed ftCOk (.free 1 (.two 0 2 (.one 2 (.one 3 (.one 4 .fin))) (.one 0 (.one 3 (.one 4 .fin))))) (by kernel_rfl) (by simp) ?_
                      simp (maxSteps := 4000000) only [go_sem, Nat.reduceBEq, Nat.reduceLT, Nat.reduceAdd, Nat.reduceLeDiff, Nat.reduceSub, Nat.reduceEqDiff, Int.reduceToNat, reduceCtorEq, ↓reduceIte]
                      repeat' (first | refine And.intro ?_ ?_ | intro hg)
                      all_goals (try simp (disch := omega) only [wrap_fits])
                      all_goals first
                        | (refine hK _ _ ?_; exact Red.auto)
                        | exact trivial
                        | assumption
                        | omega
                        | exact wrap_fits (by omega) (by omega)
                        | (refine OpK_callA (k_laws_toGraph a0_0 a0_1 (h := hr0)) [0] [] ?_
                           rintro x Hc' ⟨rfl, rfl⟩ hlen
                           simp (maxSteps := 4000000) only [go_sem, Nat.reduceBEq, Nat.reduceLT, Nat.reduceAdd, Nat.reduceLeDiff, Nat.reduceSub, Nat.reduceEqDiff, Int.reduceToNat, reduceCtorEq, ↓reduceIte]
                           repeat' (first | refine And.intro ?_ ?_ | intro hg)
                           all_goals (try simp (disch := omega) only [wrap_fits])
                           all_goals first
                             | (refine hK _ _ ?_; exact Red.auto)
                             | exact trivial
                             | assumption
                             | omega
                             | exact wrap_fits (by omega) (by omega)
                             | (refine OpK_callA (k_laws_eqGraph y_6 y_7 y_12 y_13 (h := hr1)) [6, 10] [] ?_
                                rintro x Hc' ⟨rfl, rfl⟩ hlen
                                simp (maxSteps := 4000000) only [go_sem, Nat.reduceBEq, Nat.reduceLT, Nat.reduceAdd, Nat.reduceLeDiff, Nat.reduceSub, Nat.reduceEqDiff, Int.reduceToNat, reduceCtorEq, ↓reduceIte]
                                repeat' (first | refine And.intro ?_ ?_ | intro hg)
                                all_goals (try simp (disch := omega) only [wrap_fits])
                                all_goals first
                                  | (refine hK _ _ ?_; exact Red.auto)
                                  | exact trivial
                                  | assumption
                                  | omega
                                  | exact wrap_fits (by omega) (by omega)
                                  | (simp_all; done)
                                  | (simp_all; omega))
                             | (simp_all; done)
                             | (simp_all; omega))
                        | (simp_all; done)
                        | (simp_all; omega)
                    · clear hr0 hr1
                      refine awp_cond (t := 56) rfl (fun hc12 => ?_) (fun hc12 => ?_)
                      · replace h := bite_t h hc12
                        refine awp_reg ftCOk [(4, .v (.bool false))] [.row false (.trips a0_1), .row false (.bools a1), .rbox [.v (.int .i64 a0_0), .sl 0], .row true (.trips y_2), .row true (.bools y_3), .row true (.bools y_4), .row true (.trips y_7), .box [.v (.int .i64 y_6), .sl 6], .row true (.bools y_8), .row true (.bools y_9), .row true (.trips y_13)] ?_
                        refine awp_ret ?_
                        (try simp only [Thn, InBlk, ↓reduceIte, Nat.reduceEqDiff])
                        obtain rfl := Option.some.inj h
                        refine ⟨by simp, _, [0, 1], (by simp only [go_sem, Nat.reduceBEq, Nat.reduceLT, Nat.reduceAdd, Nat.reduceLeDiff, Nat.reduceSub, Nat.reduceEqDiff, Int.reduceToNat, reduceCtorEq, ↓reduceIte]; exact rfl), ?_, ?_, ?_, ?_⟩
                        · first | exact trivial | exact ⟨trivial, trivial⟩ | exact ⟨trivial, trivial, trivial⟩ | exact ⟨trivial, trivial, trivial, trivial⟩ | (simp only [allP, and_true, true_and]; done) | (simp only [allP, and_true, true_and]; omega)
                        · simp [selOk, pos]
                        · simp
                        · first | exact ⟨rfl, rfl⟩ | (simp only [go_sem, Nat.reduceBEq, Nat.reduceLT, Nat.reduceAdd, Nat.reduceLeDiff, Nat.reduceSub, Nat.reduceEqDiff, Int.reduceToNat, reduceCtorEq, ↓reduceIte]; done) | (simp [go_sem, Nat.reduceBEq, Nat.reduceLT, Nat.reduceAdd, Nat.reduceLeDiff, Nat.reduceSub, Nat.reduceEqDiff, Int.reduceToNat, reduceCtorEq, ↓reduceIte]; done) | (simp only [go_sem, Nat.reduceBEq, Nat.reduceLT, Nat.reduceAdd, Nat.reduceLeDiff, Nat.reduceSub, Nat.reduceEqDiff, Int.reduceToNat, reduceCtorEq, ↓reduceIte]; exact ⟨rfl, rfl⟩) | (simp_all [go_sem, Nat.reduceBEq, Nat.reduceLT, Nat.reduceAdd, Nat.reduceLeDiff, Nat.reduceSub, Nat.reduceEqDiff, Int.reduceToNat, reduceCtorEq, ↓reduceIte]; done)
                      · replace h := bite_f h hc12
                        refine awp_skip ?_
                        (try simp only [Thn, InBlk, ↓reduceIte, Nat.reduceEqDiff])
                        refine hK11 _ _ ?_
                        clear hK11
                        refine awp_seq fun K14 hK14 => ?_
                        replace h := bind_some h
                        obtain ⟨y_15, hr0, h⟩ := h
                        try dsimp only at h
                        replace h := bind_some h
                        obtain ⟨y_16, hr1, h⟩ := h
                        try dsimp only at h
                        refine awp_to [(1, .sl 1), (2, .pp 2 0), (6, .sl 5), (7, .v (.int .i64 y_5)), (8, .pp 7 0), (9, .sl 8), (10, .sl 9), (11, .v (.int .i64 y_10)), (61, .v (.bool (!y_16)))] [.row false (.trips a0_1), .row false (.bools a1), .rbox [.v (.int .i64 a0_0), .sl 0], .row true (.trips y_2), .row true (.bools y_3), .row true (.bools y_4), .row true (.trips y_7), .box [.v (.int .i64 y_6), .sl 6], .row true (.bools y_8), .row true (.bools y_9), .row true (.trips y_13), .row true (.bools y_15)] ?_ ?_
                        · clear h
                          intro K hK
                          refine awp_region ftCOk ?_
                          simp (maxSteps := 4000000) only [go_sem, Nat.reduceBEq, Nat.reduceLT, Nat.reduceAdd, Nat.reduceLeDiff, Nat.reduceSub, Nat.reduceEqDiff, Int.reduceToNat, reduceCtorEq, ↓reduceIte]
                          repeat' (first | refine And.intro ?_ ?_ | intro hg)
                          all_goals (try simp (disch := omega) only [wrap_fits])
                          all_goals first
                            | (refine hK _ _ ?_; exact Red.auto)
                            | exact trivial
                            | assumption
                            | omega
                            | exact wrap_fits (by omega) (by omega)
                            | (refine wpA_callA (k_laws_toBoolS a1 (h := hr0)) [1] [] ?_
                               rintro x Hc' ⟨rfl, rfl⟩ hlen
                               refine vcOps_sound ftCOk ?_
                               simp (maxSteps := 4000000) only [go_sem, Nat.reduceBEq, Nat.reduceLT, Nat.reduceAdd, Nat.reduceLeDiff, Nat.reduceSub, Nat.reduceEqDiff, Int.reduceToNat, reduceCtorEq, ↓reduceIte]
                               repeat' (first | refine And.intro ?_ ?_ | intro hg)
                               all_goals (try simp (disch := omega) only [wrap_fits])
                               all_goals first
                                 | (refine hK _ _ ?_; exact Red.auto)
                                 | exact trivial
                                 | assumption
                                 | omega
                                 | exact wrap_fits (by omega) (by omega)
                                 | (refine wpA_callA (k_laws_eqBoolS y_8 y_15 (h := hr1)) [8, 11] [] ?_
                                    rintro x Hc' ⟨rfl, rfl⟩ hlen
                                    refine vcOps_sound ftCOk ?_
                                    simp (maxSteps := 4000000) only [go_sem, Nat.reduceBEq, Nat.reduceLT, Nat.reduceAdd, Nat.reduceLeDiff, Nat.reduceSub, Nat.reduceEqDiff, Int.reduceToNat, reduceCtorEq, ↓reduceIte]
                                    repeat' (first | refine And.intro ?_ ?_ | intro hg)
                                    all_goals (try simp (disch := omega) only [wrap_fits])
                                    all_goals first
                                      | (refine hK _ _ ?_; exact Red.auto)
                                      | exact trivial
                                      | assumption
                                      | omega
                                      | exact wrap_fits (by omega) (by omega)
                                      | (simp_all; done)
                                      | (simp_all; omega))
                                 | (simp_all; done)
                                 | (simp_all; omega))
                            | (simp_all; done)
                            | (simp_all; omega)
                        · clear hr0 hr1
                          refine awp_cond (t := 61) rfl (fun hc15 => ?_) (fun hc15 => ?_)
                          · replace h := bite_t h hc15
                            refine awp_reg ftCOk [(4, .v (.bool false))] [.row false (.trips a0_1), .row false (.bools a1), .rbox [.v (.int .i64 a0_0), .sl 0], .row true (.trips y_2), .row true (.bools y_3), .row true (.bools y_4), .row true (.trips y_7), .box [.v (.int .i64 y_6), .sl 6], .row true (.bools y_8), .row true (.bools y_9), .row true (.trips y_13), .row true (.bools y_15)] ?_
                            refine awp_ret ?_
                            (try simp only [Thn, InBlk, ↓reduceIte, Nat.reduceEqDiff])
                            obtain rfl := Option.some.inj h
                            refine ⟨by simp, _, [0, 1], (by simp only [go_sem, Nat.reduceBEq, Nat.reduceLT, Nat.reduceAdd, Nat.reduceLeDiff, Nat.reduceSub, Nat.reduceEqDiff, Int.reduceToNat, reduceCtorEq, ↓reduceIte]; exact rfl), ?_, ?_, ?_, ?_⟩
                            · first | exact trivial | exact ⟨trivial, trivial⟩ | exact ⟨trivial, trivial, trivial⟩ | exact ⟨trivial, trivial, trivial, trivial⟩ | (simp only [allP, and_true, true_and]; done) | (simp only [allP, and_true, true_and]; omega)
                            · simp [selOk, pos]
                            · simp
                            · first | exact ⟨rfl, rfl⟩ | (simp only [go_sem, Nat.reduceBEq, Nat.reduceLT, Nat.reduceAdd, Nat.reduceLeDiff, Nat.reduceSub, Nat.reduceEqDiff, Int.reduceToNat, reduceCtorEq, ↓reduceIte]; done) | (simp [go_sem, Nat.reduceBEq, Nat.reduceLT, Nat.reduceAdd, Nat.reduceLeDiff, Nat.reduceSub, Nat.reduceEqDiff, Int.reduceToNat, reduceCtorEq, ↓reduceIte]; done) | (simp only [go_sem, Nat.reduceBEq, Nat.reduceLT, Nat.reduceAdd, Nat.reduceLeDiff, Nat.reduceSub, Nat.reduceEqDiff, Int.reduceToNat, reduceCtorEq, ↓reduceIte]; exact ⟨rfl, rfl⟩) | (simp_all [go_sem, Nat.reduceBEq, Nat.reduceLT, Nat.reduceAdd, Nat.reduceLeDiff, Nat.reduceSub, Nat.reduceEqDiff, Int.reduceToNat, reduceCtorEq, ↓reduceIte]; done)
                          · replace h := bite_f h hc15
                            refine awp_skip ?_
                            (try simp only [Thn, InBlk, ↓reduceIte, Nat.reduceEqDiff])
                            refine hK14 _ _ ?_
                            clear hK14
                            refine awp_reg ftCOk [(1, .sl 1), (2, .pp 2 0), (6, .sl 5), (7, .v (.int .i64 y_5)), (8, .pp 7 0), (9, .sl 8), (10, .sl 9), (11, .v (.int .i64 y_10)), (12, .v (.int .i64 1))] [.row false (.trips a0_1), .row false (.bools a1), .rbox [.v (.int .i64 a0_0), .sl 0], .row true (.trips y_2), .row true (.bools y_3), .row true (.bools y_4), .row true (.trips y_7), .box [.v (.int .i64 y_6), .sl 6], .row true (.bools y_8), .row true (.bools y_9), .row true (.trips y_13), .row true (.bools y_15)] ?_
                            replace h := bind_some h
                            obtain ⟨⟨y_17, y_18⟩, hr0, h⟩ := h
                            try dsimp only at h
                            refine awp_to [(1, .sl 1), (2, .pp 2 0), (6, .sl 5), (7, .v (.int .i64 y_5)), (9, .sl 8), (10, .sl 9), (11, .v (.int .i64 y_10)), (12, .v (.int .i64 y_17))] [.row false (.trips a0_1), .row false (.bools a1), .rbox [.v (.int .i64 a0_0), .sl 0], .row true (.trips y_2), .row true (.bools y_3), .row true (.bools y_4), .row true (.trips y_18), .box [.v (.int .i64 y_6), .sl 6], .row true (.bools y_8), .row true (.bools y_9), .row true (.trips y_13), .row true (.bools y_15)] ?_ ?_
                            · clear h
                              intro K hK
                              refine awp_region ftCOk ?_
                              simp (maxSteps := 4000000) only [go_sem, Nat.reduceBEq, Nat.reduceLT, Nat.reduceAdd, Nat.reduceLeDiff, Nat.reduceSub, Nat.reduceEqDiff, Int.reduceToNat, reduceCtorEq, ↓reduceIte]
                              repeat' (first | refine And.intro ?_ ?_ | intro hg)
                              all_goals (try simp (disch := omega) only [wrap_fits])
                              all_goals first
                                | (refine hK _ _ ?_; exact Red.auto)
                                | exact trivial
                                | assumption
                                | omega
                                | exact wrap_fits (by omega) (by omega)
                                | (refine wpA_callA (k_laws_markGraph y_6 y_7 1 (h := hr0)) [6] [] ?_
                                   rintro x Hc' ⟨rfl, rfl⟩ hlen
                                   refine vcOps_sound ftCOk ?_
                                   simp (maxSteps := 4000000) only [go_sem, Nat.reduceBEq, Nat.reduceLT, Nat.reduceAdd, Nat.reduceLeDiff, Nat.reduceSub, Nat.reduceEqDiff, Int.reduceToNat, reduceCtorEq, ↓reduceIte]
                                   repeat' (first | refine And.intro ?_ ?_ | intro hg)
                                   all_goals (try simp (disch := omega) only [wrap_fits])
                                   all_goals first
                                     | (refine hK _ _ ?_; exact Red.auto)
                                     | exact trivial
                                     | assumption
                                     | omega
                                     | exact wrap_fits (by omega) (by omega)
                                     | (simp_all; done)
                                     | (simp_all; omega))
                                | (simp_all; done)
                                | (simp_all; omega)
                            · clear hr0
                              replace h := bind_some h
                              obtain ⟨⟨y_19, y_20⟩, hr0, h⟩ := h
                              try dsimp only at h
                              refine awp_to [(1, .sl 1), (2, .pp 2 0), (6, .sl 5), (7, .v (.int .i64 y_5)), (10, .sl 9), (11, .v (.int .i64 y_10)), (12, .v (.int .i64 y_19))] [.row false (.trips a0_1), .row false (.bools a1), .rbox [.v (.int .i64 a0_0), .sl 0], .row true (.trips y_2), .row true (.bools y_3), .row true (.bools y_4), .row true (.trips y_18), .box [.v (.int .i64 y_6), .sl 6], .row true (.bools y_20), .row true (.bools y_9), .row true (.trips y_13), .row true (.bools y_15)] ?_ ?_
                              · clear h
                                intro K hK
                                refine awp_region ftCOk ?_
                                simp (maxSteps := 4000000) only [go_sem, Nat.reduceBEq, Nat.reduceLT, Nat.reduceAdd, Nat.reduceLeDiff, Nat.reduceSub, Nat.reduceEqDiff, Int.reduceToNat, reduceCtorEq, ↓reduceIte]
                                repeat' (first | refine And.intro ?_ ?_ | intro hg)
                                all_goals (try simp (disch := omega) only [wrap_fits])
                                all_goals first
                                  | (refine hK _ _ ?_; exact Red.auto)
                                  | exact trivial
                                  | assumption
                                  | omega
                                  | exact wrap_fits (by omega) (by omega)
                                  | (refine wpA_callA (k_laws_markBoolS y_8 y_17 (h := hr0)) [8] [] ?_
                                     rintro x Hc' ⟨rfl, rfl⟩ hlen
                                     refine vcOps_sound ftCOk ?_
                                     simp (maxSteps := 4000000) only [go_sem, Nat.reduceBEq, Nat.reduceLT, Nat.reduceAdd, Nat.reduceLeDiff, Nat.reduceSub, Nat.reduceEqDiff, Int.reduceToNat, reduceCtorEq, ↓reduceIte]
                                     repeat' (first | refine And.intro ?_ ?_ | intro hg)
                                     all_goals (try simp (disch := omega) only [wrap_fits])
                                     all_goals first
                                       | (refine hK _ _ ?_; exact Red.auto)
                                       | exact trivial
                                       | assumption
                                       | omega
                                       | exact wrap_fits (by omega) (by omega)
                                       | (simp_all; done)
                                       | (simp_all; omega))
                                  | (simp_all; done)
                                  | (simp_all; omega)
                              · clear hr0
                                refine awp_seq fun K17 hK17 => ?_
                                replace h := bind_some h
                                obtain ⟨y_21, hr0, h⟩ := h
                                try dsimp only at h
                                refine awp_to [(1, .sl 1), (2, .pp 2 0), (6, .sl 5), (7, .v (.int .i64 y_5)), (10, .sl 9), (80, .v (.bool (((decide (y_19 < 0)) || (!y_21)) || (y_10 != y_5))))] [.row false (.trips a0_1), .row false (.bools a1), .rbox [.v (.int .i64 a0_0), .sl 0], .row true (.trips y_2), .row true (.bools y_3), .row true (.bools y_4), .row true (.trips y_18), .box [.v (.int .i64 y_6), .sl 6], .row true (.bools y_20), .row true (.bools y_9), .row true (.trips y_13), .row true (.bools y_15)] ?_ ?_
                                · clear h
                                  intro K hK
                                  refine awp_region ftCOk ?_
                                  simp (maxSteps := 4000000) only [go_sem, Nat.reduceBEq, Nat.reduceLT, Nat.reduceAdd, Nat.reduceLeDiff, Nat.reduceSub, Nat.reduceEqDiff, Int.reduceToNat, reduceCtorEq, ↓reduceIte]
                                  repeat' (first | refine And.intro ?_ ?_ | intro hg)
                                  all_goals (try simp (disch := omega) only [wrap_fits])
                                  all_goals first
                                    | (refine hK _ _ ?_; exact Red.auto)
                                    | exact trivial
                                    | assumption
                                    | omega
                                    | exact wrap_fits (by omega) (by omega)
                                    | (refine wpA_guard rfl rfl ?_
                                       refine wpA_callA (k_laws_eqBoolS y_9 y_4 (h := (bite_t hr0 (by rw [Bool.not_eq_true']; exact (by first | assumption | (simp only [*, Bool.false_or, Bool.true_or, Bool.or_false, Bool.or_true, Bool.false_and, Bool.true_and, Bool.and_false, Bool.and_true, Bool.not_true, Bool.not_false, beq_self_eq_true]; done) | (simp_all; done)))))) [9, 5] [] ?_
                                       rintro x Hc' ⟨rfl, rfl⟩ hlen
                                       refine vcOps_sound ftCOk ?_
                                       simp (maxSteps := 4000000) only [go_sem, Nat.reduceBEq, Nat.reduceLT, Nat.reduceAdd, Nat.reduceLeDiff, Nat.reduceSub, Nat.reduceEqDiff, Int.reduceToNat, reduceCtorEq, ↓reduceIte]
                                       repeat' (first | refine And.intro ?_ ?_ | intro hg)
                                       all_goals (try simp (disch := omega) only [wrap_fits])
                                       all_goals first
                                         | (refine hK _ _ ?_; exact Red.auto)
                                         | exact trivial
                                         | assumption
                                         | omega
                                         | exact wrap_fits (by omega) (by omega)
                                         | (simp_all; done)
                                         | (simp_all; omega))
                                    | (simp_all; done)
                                    | (simp_all; omega)
                                · clear hr0
                                  refine awp_cond (t := 80) rfl (fun hc18 => ?_) (fun hc18 => ?_)
                                  · replace h := bite_t h hc18
                                    refine awp_reg ftCOk [(4, .v (.bool false))] [.row false (.trips a0_1), .row false (.bools a1), .rbox [.v (.int .i64 a0_0), .sl 0], .row true (.trips y_2), .row true (.bools y_3), .row true (.bools y_4), .row true (.trips y_18), .box [.v (.int .i64 y_6), .sl 6], .row true (.bools y_20), .row true (.bools y_9), .row true (.trips y_13), .row true (.bools y_15)] ?_
                                    refine awp_ret ?_
                                    (try simp only [Thn, InBlk, ↓reduceIte, Nat.reduceEqDiff])
                                    obtain rfl := Option.some.inj h
                                    refine ⟨by simp, _, [0, 1], (by simp only [go_sem, Nat.reduceBEq, Nat.reduceLT, Nat.reduceAdd, Nat.reduceLeDiff, Nat.reduceSub, Nat.reduceEqDiff, Int.reduceToNat, reduceCtorEq, ↓reduceIte]; exact rfl), ?_, ?_, ?_, ?_⟩
                                    · first | exact trivial | exact ⟨trivial, trivial⟩ | exact ⟨trivial, trivial, trivial⟩ | exact ⟨trivial, trivial, trivial, trivial⟩ | (simp only [allP, and_true, true_and]; done) | (simp only [allP, and_true, true_and]; omega)
                                    · simp [selOk, pos]
                                    · simp
                                    · first | exact ⟨rfl, rfl⟩ | (simp only [go_sem, Nat.reduceBEq, Nat.reduceLT, Nat.reduceAdd, Nat.reduceLeDiff, Nat.reduceSub, Nat.reduceEqDiff, Int.reduceToNat, reduceCtorEq, ↓reduceIte]; done) | (simp [go_sem, Nat.reduceBEq, Nat.reduceLT, Nat.reduceAdd, Nat.reduceLeDiff, Nat.reduceSub, Nat.reduceEqDiff, Int.reduceToNat, reduceCtorEq, ↓reduceIte]; done) | (simp only [go_sem, Nat.reduceBEq, Nat.reduceLT, Nat.reduceAdd, Nat.reduceLeDiff, Nat.reduceSub, Nat.reduceEqDiff, Int.reduceToNat, reduceCtorEq, ↓reduceIte]; exact ⟨rfl, rfl⟩) | (simp_all [go_sem, Nat.reduceBEq, Nat.reduceLT, Nat.reduceAdd, Nat.reduceLeDiff, Nat.reduceSub, Nat.reduceEqDiff, Int.reduceToNat, reduceCtorEq, ↓reduceIte]; done)
                                  · replace h := bite_f h hc18
                                    refine awp_skip ?_
                                    (try simp only [Thn, InBlk, ↓reduceIte, Nat.reduceEqDiff])
                                    refine hK17 _ _ ?_
                                    clear hK17
                                    refine awp_reg ftCOk [(1, .sl 1), (2, .pp 2 0), (6, .sl 5), (7, .v (.int .i64 y_5)), (10, .sl 9), (13, .v (.int .i64 1))] [.row false (.trips a0_1), .row false (.bools a1), .rbox [.v (.int .i64 a0_0), .sl 0], .row true (.trips y_2), .row true (.bools y_3), .row true (.bools y_4), .row true (.trips y_18), .box [.v (.int .i64 y_6), .sl 6], .row true (.bools y_20), .row true (.bools y_9), .row true (.trips y_13), .row true (.bools y_15)] ?_
                                    replace h := bind_some h
                                    obtain ⟨⟨y_22, y_23⟩, hr0, h⟩ := h
                                    try dsimp only at h
                                    refine awp_to [(1, .sl 1), (2, .pp 2 0), (6, .sl 5), (7, .v (.int .i64 y_5)), (10, .sl 9), (13, .v (.int .i64 y_22))] [.row false (.trips a0_1), .row false (.bools a1), .rbox [.v (.int .i64 a0_0), .sl 0], .row true (.trips y_2), .row true (.bools y_3), .row true (.bools y_4), .row true (.trips y_18), .box [.v (.int .i64 y_6), .sl 6], .row true (.bools y_20), .row true (.bools y_23), .row true (.trips y_13), .row true (.bools y_15)] ?_ ?_
                                    · clear h
                                      intro K hK
                                      refine awp_region ftCOk ?_
                                      simp (maxSteps := 4000000) only [go_sem, Nat.reduceBEq, Nat.reduceLT, Nat.reduceAdd, Nat.reduceLeDiff, Nat.reduceSub, Nat.reduceEqDiff, Int.reduceToNat, reduceCtorEq, ↓reduceIte]
                                      repeat' (first | refine And.intro ?_ ?_ | intro hg)
                                      all_goals (try simp (disch := omega) only [wrap_fits])
                                      all_goals first
                                        | (refine hK _ _ ?_; exact Red.auto)
                                        | exact trivial
                                        | assumption
                                        | omega
                                        | exact wrap_fits (by omega) (by omega)
                                        | (refine wpA_callA (k_laws_markBoolS y_9 1 (h := hr0)) [9] [] ?_
                                           rintro x Hc' ⟨rfl, rfl⟩ hlen
                                           refine vcOps_sound ftCOk ?_
                                           simp (maxSteps := 4000000) only [go_sem, Nat.reduceBEq, Nat.reduceLT, Nat.reduceAdd, Nat.reduceLeDiff, Nat.reduceSub, Nat.reduceEqDiff, Int.reduceToNat, reduceCtorEq, ↓reduceIte]
                                           repeat' (first | refine And.intro ?_ ?_ | intro hg)
                                           all_goals (try simp (disch := omega) only [wrap_fits])
                                           all_goals first
                                             | (refine hK _ _ ?_; exact Red.auto)
                                             | exact trivial
                                             | assumption
                                             | omega
                                             | exact wrap_fits (by omega) (by omega)
                                             | (simp_all; done)
                                             | (simp_all; omega))
                                        | (simp_all; done)
                                        | (simp_all; omega)
                                    · clear hr0
                                      refine awp_reg ftCOk [(1, .sl 1), (2, .pp 2 0), (6, .sl 5), (7, .v (.int .i64 y_5)), (10, .sl 9), (13, .v (.int .i64 y_22)), (14, .v (.int .i64 1))] [.row false (.trips a0_1), .row false (.bools a1), .rbox [.v (.int .i64 a0_0), .sl 0], .row true (.trips y_2), .row true (.bools y_3), .row true (.bools y_4), .row true (.trips y_18), .box [.v (.int .i64 y_6), .sl 6], .row true (.bools y_20), .row true (.bools y_23), .row true (.trips y_13), .row true (.bools y_15)] ?_
                                      replace h := bind_some h
                                      obtain ⟨y_24, hr0, h⟩ := h
                                      try dsimp only at h
                                      refine awp_to [(1, .sl 1), (2, .pp 2 0), (6, .sl 5), (7, .v (.int .i64 y_5)), (10, .sl 9), (13, .v (.int .i64 y_22)), (14, .v (.int .i64 y_24))] [.row false (.trips a0_1), .row false (.bools a1), .rbox [.v (.int .i64 a0_0), .sl 0], .row true (.trips y_2), .row true (.bools y_3), .row true (.bools y_4), .row true (.trips y_18), .box [.v (.int .i64 y_6), .sl 6], .row true (.bools y_20), .row true (.bools y_23), .row true (.trips y_13), .row true (.bools y_15)] ?_ ?_
                                      · clear h
                                        intro K hK
                                        refine awp_region ftCOk ?_
                                        simp (maxSteps := 4000000) only [go_sem, Nat.reduceBEq, Nat.reduceLT, Nat.reduceAdd, Nat.reduceLeDiff, Nat.reduceSub, Nat.reduceEqDiff, Int.reduceToNat, reduceCtorEq, ↓reduceIte]
                                        repeat' (first | refine And.intro ?_ ?_ | intro hg)
                                        all_goals (try simp (disch := omega) only [wrap_fits])
                                        all_goals first
                                          | (refine hK _ _ ?_; exact Red.auto)
                                          | exact trivial
                                          | assumption
                                          | omega
                                          | exact wrap_fits (by omega) (by omega)
                                          | (refine wpA_callA (k_laws_heldBoolS y_23 1 (h := hr0)) [9] [] ?_
                                             rintro x Hc' ⟨rfl, rfl⟩ hlen
                                             refine vcOps_sound ftCOk ?_
                                             simp (maxSteps := 4000000) only [go_sem, Nat.reduceBEq, Nat.reduceLT, Nat.reduceAdd, Nat.reduceLeDiff, Nat.reduceSub, Nat.reduceEqDiff, Int.reduceToNat, reduceCtorEq, ↓reduceIte]
                                             repeat' (first | refine And.intro ?_ ?_ | intro hg)
                                             all_goals (try simp (disch := omega) only [wrap_fits])
                                             all_goals first
                                               | (refine hK _ _ ?_; exact Red.auto)
                                               | exact trivial
                                               | assumption
                                               | omega
                                               | exact wrap_fits (by omega) (by omega)
                                               | (simp_all; done)
                                               | (simp_all; omega))
                                          | (simp_all; done)
                                          | (simp_all; omega)
                                      · clear hr0
                                        refine awp_seq fun K20 hK20 => ?_
                                        refine awp_reg ftCOk [(1, .sl 1), (2, .pp 2 0), (6, .sl 5), (7, .v (.int .i64 y_5)), (10, .sl 9), (13, .v (.int .i64 y_22)), (14, .v (.int .i64 y_24)), (88, .v (.bool (decide (y_24 < 0))))] [.row false (.trips a0_1), .row false (.bools a1), .rbox [.v (.int .i64 a0_0), .sl 0], .row true (.trips y_2), .row true (.bools y_3), .row true (.bools y_4), .row true (.trips y_18), .box [.v (.int .i64 y_6), .sl 6], .row true (.bools y_20), .row true (.bools y_23), .row true (.trips y_13), .row true (.bools y_15)] ?_
                                        refine awp_cond (t := 88) rfl (fun hc21 => ?_) (fun hc21 => ?_)
                                        · replace h := bite_t h hc21
                                          refine awp_reg ftCOk [(4, .v (.bool false))] [.row false (.trips a0_1), .row false (.bools a1), .rbox [.v (.int .i64 a0_0), .sl 0], .row true (.trips y_2), .row true (.bools y_3), .row true (.bools y_4), .row true (.trips y_18), .box [.v (.int .i64 y_6), .sl 6], .row true (.bools y_20), .row true (.bools y_23), .row true (.trips y_13), .row true (.bools y_15)] ?_
                                          refine awp_ret ?_
                                          (try simp only [Thn, InBlk, ↓reduceIte, Nat.reduceEqDiff])
                                          obtain rfl := Option.some.inj h
                                          refine ⟨by simp, _, [0, 1], (by simp only [go_sem, Nat.reduceBEq, Nat.reduceLT, Nat.reduceAdd, Nat.reduceLeDiff, Nat.reduceSub, Nat.reduceEqDiff, Int.reduceToNat, reduceCtorEq, ↓reduceIte]; exact rfl), ?_, ?_, ?_, ?_⟩
                                          · first | exact trivial | exact ⟨trivial, trivial⟩ | exact ⟨trivial, trivial, trivial⟩ | exact ⟨trivial, trivial, trivial, trivial⟩ | (simp only [allP, and_true, true_and]; done) | (simp only [allP, and_true, true_and]; omega)
                                          · simp [selOk, pos]
                                          · simp
                                          · first | exact ⟨rfl, rfl⟩ | (simp only [go_sem, Nat.reduceBEq, Nat.reduceLT, Nat.reduceAdd, Nat.reduceLeDiff, Nat.reduceSub, Nat.reduceEqDiff, Int.reduceToNat, reduceCtorEq, ↓reduceIte]; done) | (simp [go_sem, Nat.reduceBEq, Nat.reduceLT, Nat.reduceAdd, Nat.reduceLeDiff, Nat.reduceSub, Nat.reduceEqDiff, Int.reduceToNat, reduceCtorEq, ↓reduceIte]; done) | (simp only [go_sem, Nat.reduceBEq, Nat.reduceLT, Nat.reduceAdd, Nat.reduceLeDiff, Nat.reduceSub, Nat.reduceEqDiff, Int.reduceToNat, reduceCtorEq, ↓reduceIte]; exact ⟨rfl, rfl⟩) | (simp_all [go_sem, Nat.reduceBEq, Nat.reduceLT, Nat.reduceAdd, Nat.reduceLeDiff, Nat.reduceSub, Nat.reduceEqDiff, Int.reduceToNat, reduceCtorEq, ↓reduceIte]; done)
                                        · replace h := bite_f h hc21
                                          refine awp_skip ?_
                                          (try simp only [Thn, InBlk, ↓reduceIte, Nat.reduceEqDiff])
                                          refine hK20 _ _ ?_
                                          clear hK20
                                          refine awp_seq fun K23 hK23 => ?_
                                          refine awp_reg ftCOk [(1, .sl 1), (2, .pp 2 0), (6, .sl 5), (7, .v (.int .i64 y_5)), (10, .sl 9), (13, .v (.int .i64 y_22)), (91, .v (.bool (y_24 != y_22)))] [.row false (.trips a0_1), .row false (.bools a1), .rbox [.v (.int .i64 a0_0), .sl 0], .row true (.trips y_2), .row true (.bools y_3), .row true (.bools y_4), .row true (.trips y_18), .box [.v (.int .i64 y_6), .sl 6], .row true (.bools y_20), .row true (.bools y_23), .row true (.trips y_13), .row true (.bools y_15)] ?_
                                          refine awp_cond (t := 91) rfl (fun hc24 => ?_) (fun hc24 => ?_)
                                          · replace h := bite_t h hc24
                                            refine awp_reg ftCOk [(4, .v (.bool false))] [.row false (.trips a0_1), .row false (.bools a1), .rbox [.v (.int .i64 a0_0), .sl 0], .row true (.trips y_2), .row true (.bools y_3), .row true (.bools y_4), .row true (.trips y_18), .box [.v (.int .i64 y_6), .sl 6], .row true (.bools y_20), .row true (.bools y_23), .row true (.trips y_13), .row true (.bools y_15)] ?_
                                            refine awp_ret ?_
                                            (try simp only [Thn, InBlk, ↓reduceIte, Nat.reduceEqDiff])
                                            obtain rfl := Option.some.inj h
                                            refine ⟨by simp, _, [0, 1], (by simp only [go_sem, Nat.reduceBEq, Nat.reduceLT, Nat.reduceAdd, Nat.reduceLeDiff, Nat.reduceSub, Nat.reduceEqDiff, Int.reduceToNat, reduceCtorEq, ↓reduceIte]; exact rfl), ?_, ?_, ?_, ?_⟩
                                            · first | exact trivial | exact ⟨trivial, trivial⟩ | exact ⟨trivial, trivial, trivial⟩ | exact ⟨trivial, trivial, trivial, trivial⟩ | (simp only [allP, and_true, true_and]; done) | (simp only [allP, and_true, true_and]; omega)
                                            · simp [selOk, pos]
                                            · simp
                                            · first | exact ⟨rfl, rfl⟩ | (simp only [go_sem, Nat.reduceBEq, Nat.reduceLT, Nat.reduceAdd, Nat.reduceLeDiff, Nat.reduceSub, Nat.reduceEqDiff, Int.reduceToNat, reduceCtorEq, ↓reduceIte]; done) | (simp [go_sem, Nat.reduceBEq, Nat.reduceLT, Nat.reduceAdd, Nat.reduceLeDiff, Nat.reduceSub, Nat.reduceEqDiff, Int.reduceToNat, reduceCtorEq, ↓reduceIte]; done) | (simp only [go_sem, Nat.reduceBEq, Nat.reduceLT, Nat.reduceAdd, Nat.reduceLeDiff, Nat.reduceSub, Nat.reduceEqDiff, Int.reduceToNat, reduceCtorEq, ↓reduceIte]; exact ⟨rfl, rfl⟩) | (simp_all [go_sem, Nat.reduceBEq, Nat.reduceLT, Nat.reduceAdd, Nat.reduceLeDiff, Nat.reduceSub, Nat.reduceEqDiff, Int.reduceToNat, reduceCtorEq, ↓reduceIte]; done)
                                          · replace h := bite_f h hc24
                                            refine awp_skip ?_
                                            (try simp only [Thn, InBlk, ↓reduceIte, Nat.reduceEqDiff])
                                            refine hK23 _ _ ?_
                                            clear hK23
                                            replace h := bind_some h
                                            obtain ⟨⟨y_25, y_26⟩, hr0, h⟩ := h
                                            try dsimp only at h
                                            replace h := bind_some h
                                            obtain ⟨y_27, hr1, h⟩ := h
                                            try dsimp only at h
                                            replace h := bind_some h
                                            obtain ⟨⟨y_28, y_29⟩, hr2, h⟩ := h
                                            try dsimp only at h
                                            refine awp_to [(6, .sl 5), (7, .v (.int .i64 y_5)), (10, .sl 9), (13, .v (.int .i64 y_22)), (15, .sl 14), (16, .v (.int .i64 y_29))] [.row false (.trips a0_1), .row false (.bools a1), .rbox [.v (.int .i64 a0_0), .sl 0], .row true (.trips y_2), .row true (.bools y_3), .row true (.bools y_4), .row true (.trips y_18), .box [.v (.int .i64 y_6), .sl 6], .row true (.bools y_20), .row true (.bools y_23), .row true (.trips y_13), .row true (.bools y_15), .row true (.trips y_26), .row true (.bools y_27), .row true (.bools y_28)] ?_ ?_
                                            · clear h
                                              intro K hK
                                              refine awp_region ftCOk ?_
                                              simp (maxSteps := 4000000) only [go_sem, Nat.reduceBEq, Nat.reduceLT, Nat.reduceAdd, Nat.reduceLeDiff, Nat.reduceSub, Nat.reduceEqDiff, Int.reduceToNat, reduceCtorEq, ↓reduceIte]
                                              repeat' (first | refine And.intro ?_ ?_ | intro hg)
                                              all_goals (try simp (disch := omega) only [wrap_fits])
                                              all_goals first
                                                | (refine hK _ _ ?_; exact Red.auto)
                                                | exact trivial
                                                | assumption
                                                | omega
                                                | exact wrap_fits (by omega) (by omega)
                                                | (refine wpA_callA (k_laws_toGraph a0_0 a0_1 (h := hr0)) [0] [] ?_
                                                   rintro x Hc' ⟨rfl, rfl⟩ hlen
                                                   refine vcOps_sound ftCOk ?_
                                                   simp (maxSteps := 4000000) only [go_sem, Nat.reduceBEq, Nat.reduceLT, Nat.reduceAdd, Nat.reduceLeDiff, Nat.reduceSub, Nat.reduceEqDiff, Int.reduceToNat, reduceCtorEq, ↓reduceIte]
                                                   repeat' (first | refine And.intro ?_ ?_ | intro hg)
                                                   all_goals (try simp (disch := omega) only [wrap_fits])
                                                   all_goals first
                                                     | (refine hK _ _ ?_; exact Red.auto)
                                                     | exact trivial
                                                     | assumption
                                                     | omega
                                                     | exact wrap_fits (by omega) (by omega)
                                                     | (refine wpA_callA (k_laws_toBoolS a1 (h := hr1)) [1] [] ?_
                                                        rintro x Hc' ⟨rfl, rfl⟩ hlen
                                                        refine vcOps_sound ftCOk ?_
                                                        simp (maxSteps := 4000000) only [go_sem, Nat.reduceBEq, Nat.reduceLT, Nat.reduceAdd, Nat.reduceLeDiff, Nat.reduceSub, Nat.reduceEqDiff, Int.reduceToNat, reduceCtorEq, ↓reduceIte]
                                                        repeat' (first | refine And.intro ?_ ?_ | intro hg)
                                                        all_goals (try simp (disch := omega) only [wrap_fits])
                                                        all_goals first
                                                          | (refine hK _ _ ?_; exact Red.auto)
                                                          | exact trivial
                                                          | assumption
                                                          | omega
                                                          | exact wrap_fits (by omega) (by omega)
                                                          | (refine wpA_callA (k_impl_BetterCut y_25 y_26 y_27 (h := hr2)) [12, 13] [] ?_
                                                             rintro x Hc' ⟨rfl, rfl⟩ hlen
                                                             refine vcOps_sound ftCOk ?_
                                                             simp (maxSteps := 4000000) only [go_sem, Nat.reduceBEq, Nat.reduceLT, Nat.reduceAdd, Nat.reduceLeDiff, Nat.reduceSub, Nat.reduceEqDiff, Int.reduceToNat, reduceCtorEq, ↓reduceIte]
                                                             repeat' (first | refine And.intro ?_ ?_ | intro hg)
                                                             all_goals (try simp (disch := omega) only [wrap_fits])
                                                             all_goals first
                                                               | (refine hK _ _ ?_; exact Red.auto)
                                                               | exact trivial
                                                               | assumption
                                                               | omega
                                                               | exact wrap_fits (by omega) (by omega)
                                                               | (simp_all; done)
                                                               | (simp_all; omega))
                                                          | (simp_all; done)
                                                          | (simp_all; omega))
                                                     | (simp_all; done)
                                                     | (simp_all; omega))
                                                | (simp_all; done)
                                                | (simp_all; omega)
                                            · clear hr0 hr1 hr2
                                              refine awp_seq fun K26 hK26 => ?_
                                              replace h := bind_some h
                                              obtain ⟨y_30, hr0, h⟩ := h
                                              try dsimp only at h
                                              refine awp_to [(10, .sl 9), (13, .v (.int .i64 y_22)), (108, .v (.bool ((!y_30) || (y_29 != y_5))))] [.row false (.trips a0_1), .row false (.bools a1), .rbox [.v (.int .i64 a0_0), .sl 0], .row true (.trips y_2), .row true (.bools y_3), .row true (.bools y_4), .row true (.trips y_18), .box [.v (.int .i64 y_6), .sl 6], .row true (.bools y_20), .row true (.bools y_23), .row true (.trips y_13), .row true (.bools y_15), .row true (.trips y_26), .row true (.bools y_27), .row true (.bools y_28)] ?_ ?_
                                              · clear h
                                                intro K hK
                                                refine awp_region ftCOk ?_
                                                simp (maxSteps := 4000000) only [go_sem, Nat.reduceBEq, Nat.reduceLT, Nat.reduceAdd, Nat.reduceLeDiff, Nat.reduceSub, Nat.reduceEqDiff, Int.reduceToNat, reduceCtorEq, ↓reduceIte]
                                                repeat' (first | refine And.intro ?_ ?_ | intro hg)
                                                all_goals (try simp (disch := omega) only [wrap_fits])
                                                all_goals first
                                                  | (refine hK _ _ ?_; exact Red.auto)
                                                  | exact trivial
                                                  | assumption
                                                  | omega
                                                  | exact wrap_fits (by omega) (by omega)
                                                  | (refine wpA_callA (k_laws_eqBoolS y_28 y_4 (h := hr0)) [14, 5] [] ?_
                                                     rintro x Hc' ⟨rfl, rfl⟩ hlen
                                                     refine vcOps_sound ftCOk ?_
                                                     simp (maxSteps := 4000000) only [go_sem, Nat.reduceBEq, Nat.reduceLT, Nat.reduceAdd, Nat.reduceLeDiff, Nat.reduceSub, Nat.reduceEqDiff, Int.reduceToNat, reduceCtorEq, ↓reduceIte]
                                                     repeat' (first | refine And.intro ?_ ?_ | intro hg)
                                                     all_goals (try simp (disch := omega) only [wrap_fits])
                                                     all_goals first
                                                       | (refine hK _ _ ?_; exact Red.auto)
                                                       | exact trivial
                                                       | assumption
                                                       | omega
                                                       | exact wrap_fits (by omega) (by omega)
                                                       | (simp_all; done)
                                                       | (simp_all; omega))
                                                  | (simp_all; done)
                                                  | (simp_all; omega)
                                              · clear hr0
                                                refine awp_cond (t := 108) rfl (fun hc27 => ?_) (fun hc27 => ?_)
                                                · replace h := bite_t h hc27
                                                  refine awp_reg ftCOk [(4, .v (.bool false))] [.row false (.trips a0_1), .row false (.bools a1), .rbox [.v (.int .i64 a0_0), .sl 0], .row true (.trips y_2), .row true (.bools y_3), .row true (.bools y_4), .row true (.trips y_18), .box [.v (.int .i64 y_6), .sl 6], .row true (.bools y_20), .row true (.bools y_23), .row true (.trips y_13), .row true (.bools y_15), .row true (.trips y_26), .row true (.bools y_27), .row true (.bools y_28)] ?_
                                                  refine awp_ret ?_
                                                  (try simp only [Thn, InBlk, ↓reduceIte, Nat.reduceEqDiff])
                                                  obtain rfl := Option.some.inj h
                                                  refine ⟨by simp, _, [0, 1], (by simp only [go_sem, Nat.reduceBEq, Nat.reduceLT, Nat.reduceAdd, Nat.reduceLeDiff, Nat.reduceSub, Nat.reduceEqDiff, Int.reduceToNat, reduceCtorEq, ↓reduceIte]; exact rfl), ?_, ?_, ?_, ?_⟩
                                                  · first | exact trivial | exact ⟨trivial, trivial⟩ | exact ⟨trivial, trivial, trivial⟩ | exact ⟨trivial, trivial, trivial, trivial⟩ | (simp only [allP, and_true, true_and]; done) | (simp only [allP, and_true, true_and]; omega)
                                                  · simp [selOk, pos]
                                                  · simp
                                                  · first | exact ⟨rfl, rfl⟩ | (simp only [go_sem, Nat.reduceBEq, Nat.reduceLT, Nat.reduceAdd, Nat.reduceLeDiff, Nat.reduceSub, Nat.reduceEqDiff, Int.reduceToNat, reduceCtorEq, ↓reduceIte]; done) | (simp [go_sem, Nat.reduceBEq, Nat.reduceLT, Nat.reduceAdd, Nat.reduceLeDiff, Nat.reduceSub, Nat.reduceEqDiff, Int.reduceToNat, reduceCtorEq, ↓reduceIte]; done) | (simp only [go_sem, Nat.reduceBEq, Nat.reduceLT, Nat.reduceAdd, Nat.reduceLeDiff, Nat.reduceSub, Nat.reduceEqDiff, Int.reduceToNat, reduceCtorEq, ↓reduceIte]; exact ⟨rfl, rfl⟩) | (simp_all [go_sem, Nat.reduceBEq, Nat.reduceLT, Nat.reduceAdd, Nat.reduceLeDiff, Nat.reduceSub, Nat.reduceEqDiff, Int.reduceToNat, reduceCtorEq, ↓reduceIte]; done)
                                                · replace h := bite_f h hc27
                                                  refine awp_skip ?_
                                                  (try simp only [Thn, InBlk, ↓reduceIte, Nat.reduceEqDiff])
                                                  refine hK26 _ _ ?_
                                                  clear hK26
                                                  refine awp_reg ftCOk [(10, .sl 9), (13, .v (.int .i64 y_22)), (14, .v (.int .i64 1))] [.row false (.trips a0_1), .row false (.bools a1), .rbox [.v (.int .i64 a0_0), .sl 0], .row true (.trips y_2), .row true (.bools y_3), .row true (.bools y_4), .row true (.trips y_18), .box [.v (.int .i64 y_6), .sl 6], .row true (.bools y_20), .row true (.bools y_23), .row true (.trips y_13), .row true (.bools y_15), .row true (.trips y_26), .row true (.bools y_27), .row true (.bools y_28)] ?_
                                                  replace h := bind_some h
                                                  obtain ⟨y_31, hr0, h⟩ := h
                                                  try dsimp only at h
                                                  refine awp_to [(13, .v (.int .i64 y_22)), (14, .v (.int .i64 y_31))] [.row false (.trips a0_1), .row false (.bools a1), .rbox [.v (.int .i64 a0_0), .sl 0], .row true (.trips y_2), .row true (.bools y_3), .row true (.bools y_4), .row true (.trips y_18), .box [.v (.int .i64 y_6), .sl 6], .row true (.bools y_20), .row true (.bools y_23), .row true (.trips y_13), .row true (.bools y_15), .row true (.trips y_26), .row true (.bools y_27), .row true (.bools y_28)] ?_ ?_
                                                  · clear h
                                                    intro K hK
                                                    refine awp_region ftCOk ?_
                                                    simp (maxSteps := 4000000) only [go_sem, Nat.reduceBEq, Nat.reduceLT, Nat.reduceAdd, Nat.reduceLeDiff, Nat.reduceSub, Nat.reduceEqDiff, Int.reduceToNat, reduceCtorEq, ↓reduceIte]
                                                    repeat' (first | refine And.intro ?_ ?_ | intro hg)
                                                    all_goals (try simp (disch := omega) only [wrap_fits])
                                                    all_goals first
                                                      | (refine hK _ _ ?_; exact Red.auto)
                                                      | exact trivial
                                                      | assumption
                                                      | omega
                                                      | exact wrap_fits (by omega) (by omega)
                                                      | (refine wpA_callA (k_laws_heldBoolS y_23 1 (h := hr0)) [9] [] ?_
                                                         rintro x Hc' ⟨rfl, rfl⟩ hlen
                                                         refine vcOps_sound ftCOk ?_
                                                         simp (maxSteps := 4000000) only [go_sem, Nat.reduceBEq, Nat.reduceLT, Nat.reduceAdd, Nat.reduceLeDiff, Nat.reduceSub, Nat.reduceEqDiff, Int.reduceToNat, reduceCtorEq, ↓reduceIte]
                                                         repeat' (first | refine And.intro ?_ ?_ | intro hg)
                                                         all_goals (try simp (disch := omega) only [wrap_fits])
                                                         all_goals first
                                                           | (refine hK _ _ ?_; exact Red.auto)
                                                           | exact trivial
                                                           | assumption
                                                           | omega
                                                           | exact wrap_fits (by omega) (by omega)
                                                           | (simp_all; done)
                                                           | (simp_all; omega))
                                                      | (simp_all; done)
                                                      | (simp_all; omega)
                                                  · clear hr0
                                                    refine awp_seq fun K29 hK29 => ?_
                                                    refine awp_reg ftCOk [(13, .v (.int .i64 y_22)), (14, .v (.int .i64 y_31)), (113, .v (.bool (decide (y_31 < 0))))] [.row false (.trips a0_1), .row false (.bools a1), .rbox [.v (.int .i64 a0_0), .sl 0], .row true (.trips y_2), .row true (.bools y_3), .row true (.bools y_4), .row true (.trips y_18), .box [.v (.int .i64 y_6), .sl 6], .row true (.bools y_20), .row true (.bools y_23), .row true (.trips y_13), .row true (.bools y_15), .row true (.trips y_26), .row true (.bools y_27), .row true (.bools y_28)] ?_
                                                    refine awp_cond (t := 113) rfl (fun hc30 => ?_) (fun hc30 => ?_)
                                                    · replace h := bite_t h hc30
                                                      refine awp_reg ftCOk [(4, .v (.bool false))] [.row false (.trips a0_1), .row false (.bools a1), .rbox [.v (.int .i64 a0_0), .sl 0], .row true (.trips y_2), .row true (.bools y_3), .row true (.bools y_4), .row true (.trips y_18), .box [.v (.int .i64 y_6), .sl 6], .row true (.bools y_20), .row true (.bools y_23), .row true (.trips y_13), .row true (.bools y_15), .row true (.trips y_26), .row true (.bools y_27), .row true (.bools y_28)] ?_
                                                      refine awp_ret ?_
                                                      (try simp only [Thn, InBlk, ↓reduceIte, Nat.reduceEqDiff])
                                                      obtain rfl := Option.some.inj h
                                                      refine ⟨by simp, _, [0, 1], (by simp only [go_sem, Nat.reduceBEq, Nat.reduceLT, Nat.reduceAdd, Nat.reduceLeDiff, Nat.reduceSub, Nat.reduceEqDiff, Int.reduceToNat, reduceCtorEq, ↓reduceIte]; exact rfl), ?_, ?_, ?_, ?_⟩
                                                      · first | exact trivial | exact ⟨trivial, trivial⟩ | exact ⟨trivial, trivial, trivial⟩ | exact ⟨trivial, trivial, trivial, trivial⟩ | (simp only [allP, and_true, true_and]; done) | (simp only [allP, and_true, true_and]; omega)
                                                      · simp [selOk, pos]
                                                      · simp
                                                      · first | exact ⟨rfl, rfl⟩ | (simp only [go_sem, Nat.reduceBEq, Nat.reduceLT, Nat.reduceAdd, Nat.reduceLeDiff, Nat.reduceSub, Nat.reduceEqDiff, Int.reduceToNat, reduceCtorEq, ↓reduceIte]; done) | (simp [go_sem, Nat.reduceBEq, Nat.reduceLT, Nat.reduceAdd, Nat.reduceLeDiff, Nat.reduceSub, Nat.reduceEqDiff, Int.reduceToNat, reduceCtorEq, ↓reduceIte]; done) | (simp only [go_sem, Nat.reduceBEq, Nat.reduceLT, Nat.reduceAdd, Nat.reduceLeDiff, Nat.reduceSub, Nat.reduceEqDiff, Int.reduceToNat, reduceCtorEq, ↓reduceIte]; exact ⟨rfl, rfl⟩) | (simp_all [go_sem, Nat.reduceBEq, Nat.reduceLT, Nat.reduceAdd, Nat.reduceLeDiff, Nat.reduceSub, Nat.reduceEqDiff, Int.reduceToNat, reduceCtorEq, ↓reduceIte]; done)
                                                    · replace h := bite_f h hc30
                                                      refine awp_skip ?_
                                                      (try simp only [Thn, InBlk, ↓reduceIte, Nat.reduceEqDiff])
                                                      refine hK29 _ _ ?_
                                                      clear hK29
                                                      refine awp_seq fun K32 hK32 => ?_
                                                      refine awp_reg ftCOk [(116, .v (.bool (y_31 != y_22)))] [.row false (.trips a0_1), .row false (.bools a1), .rbox [.v (.int .i64 a0_0), .sl 0], .row true (.trips y_2), .row true (.bools y_3), .row true (.bools y_4), .row true (.trips y_18), .box [.v (.int .i64 y_6), .sl 6], .row true (.bools y_20), .row true (.bools y_23), .row true (.trips y_13), .row true (.bools y_15), .row true (.trips y_26), .row true (.bools y_27), .row true (.bools y_28)] ?_
                                                      refine awp_cond (t := 116) rfl (fun hc33 => ?_) (fun hc33 => ?_)
                                                      · replace h := bite_t h hc33
                                                        refine awp_reg ftCOk [(4, .v (.bool false))] [.row false (.trips a0_1), .row false (.bools a1), .rbox [.v (.int .i64 a0_0), .sl 0], .row true (.trips y_2), .row true (.bools y_3), .row true (.bools y_4), .row true (.trips y_18), .box [.v (.int .i64 y_6), .sl 6], .row true (.bools y_20), .row true (.bools y_23), .row true (.trips y_13), .row true (.bools y_15), .row true (.trips y_26), .row true (.bools y_27), .row true (.bools y_28)] ?_
                                                        refine awp_ret ?_
                                                        (try simp only [Thn, InBlk, ↓reduceIte, Nat.reduceEqDiff])
                                                        obtain rfl := Option.some.inj h
                                                        refine ⟨by simp, _, [0, 1], (by simp only [go_sem, Nat.reduceBEq, Nat.reduceLT, Nat.reduceAdd, Nat.reduceLeDiff, Nat.reduceSub, Nat.reduceEqDiff, Int.reduceToNat, reduceCtorEq, ↓reduceIte]; exact rfl), ?_, ?_, ?_, ?_⟩
                                                        · first | exact trivial | exact ⟨trivial, trivial⟩ | exact ⟨trivial, trivial, trivial⟩ | exact ⟨trivial, trivial, trivial, trivial⟩ | (simp only [allP, and_true, true_and]; done) | (simp only [allP, and_true, true_and]; omega)
                                                        · simp [selOk, pos]
                                                        · simp
                                                        · first | exact ⟨rfl, rfl⟩ | (simp only [go_sem, Nat.reduceBEq, Nat.reduceLT, Nat.reduceAdd, Nat.reduceLeDiff, Nat.reduceSub, Nat.reduceEqDiff, Int.reduceToNat, reduceCtorEq, ↓reduceIte]; done) | (simp [go_sem, Nat.reduceBEq, Nat.reduceLT, Nat.reduceAdd, Nat.reduceLeDiff, Nat.reduceSub, Nat.reduceEqDiff, Int.reduceToNat, reduceCtorEq, ↓reduceIte]; done) | (simp only [go_sem, Nat.reduceBEq, Nat.reduceLT, Nat.reduceAdd, Nat.reduceLeDiff, Nat.reduceSub, Nat.reduceEqDiff, Int.reduceToNat, reduceCtorEq, ↓reduceIte]; exact ⟨rfl, rfl⟩) | (simp_all [go_sem, Nat.reduceBEq, Nat.reduceLT, Nat.reduceAdd, Nat.reduceLeDiff, Nat.reduceSub, Nat.reduceEqDiff, Int.reduceToNat, reduceCtorEq, ↓reduceIte]; done)
                                                      · replace h := bite_f h hc33
                                                        refine awp_skip ?_
                                                        (try simp only [Thn, InBlk, ↓reduceIte, Nat.reduceEqDiff])
                                                        refine hK32 _ _ ?_
                                                        clear hK32
                                                        refine awp_reg ftCOk [(4, .v (.bool true))] [.row false (.trips a0_1), .row false (.bools a1), .rbox [.v (.int .i64 a0_0), .sl 0], .row true (.trips y_2), .row true (.bools y_3), .row true (.bools y_4), .row true (.trips y_18), .box [.v (.int .i64 y_6), .sl 6], .row true (.bools y_20), .row true (.bools y_23), .row true (.trips y_13), .row true (.bools y_15), .row true (.trips y_26), .row true (.bools y_27), .row true (.bools y_28)] ?_
                                                        refine awp_ret ?_
                                                        (try simp only [Thn, InBlk, ↓reduceIte, Nat.reduceEqDiff])
                                                        obtain rfl := Option.some.inj h
                                                        refine ⟨by simp, _, [0, 1], (by simp only [go_sem, Nat.reduceBEq, Nat.reduceLT, Nat.reduceAdd, Nat.reduceLeDiff, Nat.reduceSub, Nat.reduceEqDiff, Int.reduceToNat, reduceCtorEq, ↓reduceIte]; exact rfl), ?_, ?_, ?_, ?_⟩
                                                        · first | exact trivial | exact ⟨trivial, trivial⟩ | exact ⟨trivial, trivial, trivial⟩ | exact ⟨trivial, trivial, trivial, trivial⟩ | (simp only [allP, and_true, true_and]; done) | (simp only [allP, and_true, true_and]; omega)
                                                        · simp [selOk, pos]
                                                        · simp
                                                        · first | exact ⟨rfl, rfl⟩ | (simp only [go_sem, Nat.reduceBEq, Nat.reduceLT, Nat.reduceAdd, Nat.reduceLeDiff, Nat.reduceSub, Nat.reduceEqDiff, Int.reduceToNat, reduceCtorEq, ↓reduceIte]; done) | (simp [go_sem, Nat.reduceBEq, Nat.reduceLT, Nat.reduceAdd, Nat.reduceLeDiff, Nat.reduceSub, Nat.reduceEqDiff, Int.reduceToNat, reduceCtorEq, ↓reduceIte]; done) | (simp only [go_sem, Nat.reduceBEq, Nat.reduceLT, Nat.reduceAdd, Nat.reduceLeDiff, Nat.reduceSub, Nat.reduceEqDiff, Int.reduceToNat, reduceCtorEq, ↓reduceIte]; exact ⟨rfl, rfl⟩) | (simp_all [go_sem, Nat.reduceBEq, Nat.reduceLT, Nat.reduceAdd, Nat.reduceLeDiff, Nat.reduceSub, Nat.reduceEqDiff, Int.reduceToNat, reduceCtorEq, ↓reduceIte]; done)
end Go.Proofs.Ytngpllgpfndkkaa
